/- Parts of the proof, one after the other: Models: where formulas hold (plain). Reductions: what the nodes of a reduction are (plain). Reductions of events: After of the program walked. The layer Dv, part 25: functions that may panic; a deferred call that recovers. Lists taken element by element. Action models one after the other: what they are (plain). Action models one after the other: check, compact and after of the program walked. Action models one after the other: Compose of the program walked. Products: what they are (plain). Products: with the action model in which nothing happens; conditions that products keep (plain). Products: the conditions that they keep (plain). Products: the pairs one after the other (plain). Lists that fill up; sets as words (plain). Models: Check of the program walked. -/
import Derived.Recover
import Derived.Test.YtejbieopeicgkaaGreatDoorM7
set_option maxRecDepth 100000
set_option maxHeartbeats 4000000
namespace Go.Proofs.YtejbieopeicgkaaGreatDoor
open Go Go.Dv
def orF (x y:Nat):Nat:=x |||y
def andF (x y:Nat):Nat:=x&&&y
def vlN (m:Mo) (n:Nat) (op i g:Int) (x y:Nat):Nat :=
 bif op==1 then 2^n-1 else bif op==2 then 0 else bif op==3 then m.val.getD i.toNat 0 else bif op==4 then notN n x
 else bif op==5 then x&&&y else bif op==6 then x |||y else bif op==7 then notN n x |||y else bif op==8 then notN n (x ^^^ y)
 else bif op==9 then boxN n (m.rel.getD i.toNat []) x else bif op==10 then diaN n (m.rel.getD i.toNat []) x
 else bif op==11 then boxN n (grpM orF m g 0) x else bif op==12 then boxN n (grpM andF m g (2^n-1)) x else comN n (grpM orF m g 0) x y
def vlT (m:Mo) (n:Nat):Tr→Nat
 |.none=>0
 |.nd op i _ g a b=>vlN m n op i g (vlT m n a) (vlT m n b)
theorem bif_lt {c:Bool} {a b k:Nat} (ha:a<k) (hb:b<k):(bif c then a else b)<k:=by cases c<;>assumption
theorem vlN_lt {m:Mo} {n:Nat} (hv:∀ s,s∈m.val→s<2^n) {op i g:Int} {x y:Nat} (hx:x<2^n) (hy:y<2^n):vlN m n op i g x y<2^n:=by
 have hp:=Nat.two_pow_pos n
 unfold vlN
 refine bif_lt (by omega) (bif_lt hp (bif_lt (getD_lt2 hv _) (bif_lt (notN_lt _ _) (bif_lt (Nat.and_lt_two_pow x hy) (bif_lt (Nat.or_lt_two_pow hx hy) (bif_lt (Nat.or_lt_two_pow (notN_lt _ _) hy) (bif_lt (notN_lt _ _) (bif_lt (boxN_lt _ _ _) (bif_lt (diaN_lt _ _ _) (bif_lt (boxN_lt _ _ _) (bif_lt (boxN_lt _ _ _) (comN_lt _ _ _ _))))))))))))
theorem vlT_lt {m:Mo} {n:Nat} (hv:∀ s,s∈m.val→s<2^n):∀ t,vlT m n t<2^n
 |.none=>Nat.two_pow_pos n
 |.nd _ _ _ _ a b=>vlN_lt hv (vlT_lt hv a) (vlT_lt hv b)
def fitQ (m:Mo) (op i _e g:Int):Bool :=
 bif decide (op≤2) then true else bif op==3 then !decide (i≥(m.val.length:Int)) else bif decide (op≤8) then true
 else bif decide (op≤10) then !decide (i≥(m.rel.length:Int)) else bif decide (op≤13) then !decide (g≥shl64 1 (m.rel.length:Int)) else false
theorem vlN_congr {m:Mo} {n:Nat} {op i g:Int} {x y x' y':Nat} (h1:1≤op) (h2:op≤13) (hx:usesX op=true→x=x') (hy:usesY op=true→y=y'):vlN m n op i g x y=vlN m n op i g x' y':=by
 have:op=1∨op=2∨op=3∨op=4∨op=5∨op=6∨op=7∨op=8∨op=9∨op=10∨op=11∨op=12∨op=13:=by omega
 rcases this with rfl|rfl|rfl|rfl|rfl|rfl|rfl|rfl|rfl|rfl|rfl|rfl|rfl
 ·rfl
 ·rfl
 ·rfl
 ·rw[hx rfl];rfl
 ·rw[hx rfl,hy rfl]
 ·rw[hx rfl,hy rfl]
 ·rw[hx rfl,hy rfl]
 ·rw[hx rfl,hy rfl]
 ·rw[hx rfl];rfl
 ·rw[hx rfl];rfl
 ·rw[hx rfl];rfl
 ·rw[hx rfl];rfl
 ·rw[hx rfl,hy rfl]
theorem fitQ_13 {m:Mo} {op i e g:Int} (h:fitQ m op i e g=true):op≤13:=by
 unfold fitQ at h
 rcases Int.lt_or_le 13 op with q|q
 ·rw[show decide (op≤2)=false from decide_eq_false (by omega),show (op==3)=false by simp;omega,show decide (op≤8)=false from decide_eq_false (by omega),show decide (op≤10)=false from decide_eq_false (by omega),show decide (op≤13)=false from decide_eq_false (by omega)] at h;cases h
 ·exact q
def usY (op:Int):Bool:=bif (bif decide (op≥5) then decide (op≤8) else false) then true else op==13
def okV (acc:List (Nat×Bool)) (x:Nd):Bool :=
 bif usY x.op then (bif (bif decide (x.op≥4) then (acc.getD x.x.toNat (0,false)).2 else true) then (acc.getD x.y.toNat (0,false)).2 else false) else (bif decide (x.op≥4) then (acc.getD x.x.toNat (0,false)).2 else true)
def valV (m:Mo) (n:Nat) (x:Nd) (a b:Nat):Nat×Bool:=bif fitQ m x.op x.i x.e x.g then (vlN m n x.op x.i x.g a b,true) else (0,false)
def nodeV (m:Mo) (n:Nat) (acc:List (Nat×Bool)) (x:Nd):Nat×Bool :=
 bif okV acc x then valV m n x (acc.getD x.x.toNat (0,false)).1 (acc.getD x.y.toNat (0,false)).1 else (0,false)
def setsV (m:Mo) (n:Nat) (f:List Nd):List (Nat×Bool):=f.foldl (fun acc x=>acc++[nodeV m n acc x]) []
theorem setsV_snoc (m:Mo) (n:Nat) (f:List Nd) (x:Nd):setsV m n (f++[x])=setsV m n f++[nodeV m n (setsV m n f) x]:=by rw[setsV,List.foldl_append];rfl
theorem setsV_take {m:Mo} {n:Nat} {f:List Nd} {i:Nat} (h:i<f.length):setsV m n (f.take (i+1))=setsV m n (f.take i)++[nodeV m n (setsV m n (f.take i)) f[i]]:=by
 rw[List.take_succ_eq_append_getElem h,setsV_snoc]
theorem setsV_len {m:Mo} {n:Nat} {f:List Nd}:∀ i,i≤f.length→(setsV m n (f.take i)).length=i
 |0,_=>rfl
 |i+1,h=>by rw[setsV_take h,List.length_append,setsV_len i (by omega)];rfl
theorem setsV_get {m:Mo} {n:Nat} {f:List Nd}:∀ {k i:Nat} (_h:i<k) (_hk:k≤f.length),(setsV m n (f.take k))[i]? = some (nodeV m n (setsV m n (f.take i)) (f[i]'(by omega)))
 |0,i,h,_=>by omega
 |k+1,i,h,hk=>by
  rw[setsV_take hk]
  have hl:=setsV_len (m:=m) (n:=n) (f:=f) k (by omega)
  by_cases e:i=k
  ·subst e
   rw[List.getElem?_append_right (by omega),hl,Nat.sub_self];rfl
  ·rw[List.getElem?_append_left (by omega)]
   exact setsV_get (by omega) (by omega)
theorem usX_eq {op:Int} (h2:op≤21):decide (op≥4)=usesX op:=by
 rw[usesX,show decide (op≤21)=true from decide_eq_true h2,Bool.and_true]
theorem usY_eq {op:Int} (h1:1≤op) (h2:op≤13):usY op=usesY op:=by
 have:op=1∨op=2∨op=3∨op=4∨op=5∨op=6∨op=7∨op=8∨op=9∨op=10∨op=11∨op=12∨op=13:=by omega
 rcases this with rfl|rfl|rfl|rfl|rfl|rfl|rfl|rfl|rfl|rfl|rfl|rfl|rfl<;>rfl
theorem setsV_tree {m:Mo} {n:Nat} {f:List Nd} (hf:Okl f):∀ (k i:Nat),i<k→(hi:i<f.length)→allT (fitQ m) (tree f i)=true→nodeV m n (setsV m n (f.take i)) f[i]=(vlT m n (tree f i),true)
 |0,i,h,_,_=>by omega
 |k+1,i,h,hi,ha=>by
  have hx:f[i]? = some f[i]:=List.getElem?_eq_getElem hi
  have ok:=hf i _ hx
  generalize hxe:f[i]=x at hx ok
  rw[tree_nd hf hx] at ha ⊢
  rw[allT,Bool.and_eq_true,Bool.and_eq_true] at ha
  obtain⟨⟨hq,hax⟩,hay⟩:=ha
  have h13:=fitQ_13 hq
  have sub:∀ j:Nat,j<i→allT (fitQ m) (tree f j)=true→(setsV m n (f.take i)).getD j (0,false)=(vlT m n (tree f j),true):=fun j hj hj2=>by
   rw[List.getD_eq_getElem?_getD,setsV_get (m:=m) (n:=n) hj (by omega),Option.getD_some]
   exact setsV_tree hf k j (by omega) (by omega) hj2
  have hX:usesX x.op=true→(setsV m n (f.take i)).getD x.x.toNat (0,false)=(vlT m n (tree f x.x.toNat),true):=fun hu=>by
   have:=ok.x hu
   exact sub _ (by omega) (by rw[hu] at hax;exact hax)
  have hY:usesY x.op=true→(setsV m n (f.take i)).getD x.y.toNat (0,false)=(vlT m n (tree f x.y.toNat),true):=fun hu=>by
   have:=ok.y hu
   exact sub _ (by omega) (by rw[hu] at hay;exact hay)
  have hok:okV (setsV m n (f.take i)) x=true:=by
   unfold okV
   rw[usX_eq ok.op.2,usY_eq ok.op.1 h13]
   cases hux:usesX x.op with
   |false =>
    have:usesY x.op=false:=by
     cases huy:usesY x.op with
     |false=>rfl
     |true =>
      exfalso
      simp only[usesX,usesY,Bool.and_eq_false_iff,decide_eq_false_iff_not,Bool.or_eq_true,Bool.and_eq_true,decide_eq_true_eq,beq_iff_eq] at hux huy
      omega
    rw[this];rfl
   |true =>
    rw[hX hux]
    cases huy:usesY x.op with
    |false=>rfl
    |true=>rw[hY huy];rfl
  rw[nodeV,hok,valV,hq]
  show (vlN m n x.op x.i x.g _ _,true)=(vlN m n x.op x.i x.g (vlT m n _) (vlT m n _),true)
  rw[vlN_congr (x':=vlT m n (bif usesX x.op then tree f x.x.toNat else .none)) (y':=vlT m n (bif usesY x.op then tree f x.y.toNat else .none)) ok.op.1 h13 (fun hu=>by rw[hX hu,hu];rfl) (fun hu=>by rw[hY hu,hu];rfl)]
def stM (A F:Nat) (op i e g:Int):Bool:=decide (fragN ⟨op,i,e,g,0,0⟩<16) && decide (agN ⟨op,i,e,g,0,0⟩<2^A) && decide (factN ⟨op,i,e,g,0,0⟩<2^F)
theorem statM_iff {A F:Nat} {f:List Nd}:statI A F f=0↔check f=0∧∀ x,x∈comp f→stM A F x.op x.i x.e x.g=true:=by
 have hfr:frags f<2^62:=Nat.lt_of_lt_of_le (frags_lt f) (by decide)
 have hag:=agents_lt f
 have hfa:=facts_lt f
 have e1:∀ x:Nd,fragN ⟨x.op,x.i,x.e,x.g,0,0⟩=fragN x:=fun x=>rfl
 have e2:∀ x:Nd,agN ⟨x.op,x.i,x.e,x.g,0,0⟩=agN x:=fun x=>rfl
 have e3:∀ x:Nd,factN ⟨x.op,x.i,x.e,x.g,0,0⟩=factN x:=fun x=>rfl
 constructor
 ·intro h
  obtain⟨h1,h2,h3⟩:=statI_ok h
  refine⟨h1,fun x hx => ?_⟩
  rw[frag_low hfr] at h2
  have h4:belowB (agents f) A=true∧belowB (facts f) F=true:=by
   unfold fits at h3
   rw[h1] at h3
   cases hb:belowB (agents f) A with
   |true=>rw[hb] at h3;exact⟨rfl,h3⟩
   |false=>rw[hb] at h3;cases h3
  rw[below_lt hag (by decide),below_lt hfa (by decide)] at h4
  have h5:fragN x≤frags f:=orN_le hx
  have h6:agN x≤agents f:=orN_le hx
  have h7:factN x≤facts f:=orN_le hx
  simp only[stM,e1,e2,e3,Bool.and_eq_true,decide_eq_true_eq]
  exact⟨⟨by omega,by omega⟩,by omega⟩
 ·rintro⟨h1,h2⟩
  have h3:frags f<16:=orN_lt (k:=4) fun x hx=>by
   have:=h2 x hx
   simp only[stM,e1,e2,e3,Bool.and_eq_true,decide_eq_true_eq] at this
   exact this.1.1
  have h4:agents f<2^A:=orN_lt fun x hx=>by
   have:=h2 x hx
   simp only[stM,e1,e2,e3,Bool.and_eq_true,decide_eq_true_eq] at this
   exact this.1.2
  have h6:facts f<2^F:=orN_lt fun x hx=>by
   have:=h2 x hx
   simp only[stM,e1,e2,e3,Bool.and_eq_true,decide_eq_true_eq] at this
   exact this.2
  have h5:fits f A F=true:=by
   unfold fits
   rw[h1,(below_lt hag (by decide)).2 h4,show belowB (facts f) F=true from (below_lt hfa (by decide)).2 h6];rfl
  rw[statI,h1,(frag_low hfr).2 h3,h5];rfl
theorem fitQ_of {m:Mo} {x:Nd} {k:Int} (hA:m.rel.length≤4) (h:OkNd x k) (hs:stM m.rel.length m.val.length x.op x.i x.e x.g=true):fitQ m x.op x.i x.e x.g=true:=by
 simp only[stM,Bool.and_eq_true,decide_eq_true_eq] at hs
 obtain⟨⟨h1,h2⟩,h3⟩:=hs
 have h1:fragN x<16:=h1
 have h2:agN x<2^m.rel.length:=h2
 have h3:factN x<2^m.val.length:=h3
 have ho:=h.op
 have h13:x.op≤13:=by
  have key:∀ op:Nat,op<22→(frag (op:Int)).toNat<16→op≤13:=by decide
  have:=key x.op.toNat (by omega)
  rw[show ((x.op.toNat:Nat):Int)=x.op by omega] at this
  have:=this h1
  omega
 unfold fitQ
 rcases Int.lt_or_le 2 x.op with g1|g1
 ·rw[decide_eq_false (by omega),cond_false]
  by_cases g2:x.op=3
  ·have hf:=h.fact g2
   rw[factN,show (x.op==3)=true by simpa using g2] at h3
   have:=(Nat.pow_lt_pow_iff_right (by decide:1<2)).1 (show 2^x.i.toNat<2^m.val.length from h3)
   rw[show (x.op==3)=true by simpa using g2,cond_true,decide_eq_false (by omega)];rfl
  ·rw[show (x.op==3)=false by simpa using g2,cond_false]
   rcases Int.lt_or_le 8 x.op with g3|g3
   ·rw[decide_eq_false (by omega),cond_false]
    rcases Int.lt_or_le 10 x.op with g4|g4
    ·have hia:isAgent x.op=false:=by simp[isAgent];omega
     have hig:isGroup x.op=true:=by simp[isGroup];omega
     have hg:=h.group hig
     rw[agN,hia] at h2
     have h2:x.g.toNat<2^m.rel.length:=h2
     rw[decide_eq_false (by omega),cond_false,decide_eq_true (by omega),cond_true,shl_n hA,decide_eq_false (by omega)];rfl
    ·have hia:isAgent x.op=true:=by simp[isAgent];omega
     have ha:=h.agent hia
     rw[agN,hia] at h2
     have:=(Nat.pow_lt_pow_iff_right (by decide:1<2)).1 (show 2^x.i.toNat<2^m.rel.length from h2)
     rw[decide_eq_true (by omega),cond_true,decide_eq_false (by omega)];rfl
   ·rw[decide_eq_true (by omega),cond_true]
 ·rw[decide_eq_true (by omega),cond_true]
def reqI (m:Mo) (f:List Nd):Int:=bif moI m != 0 then moI m else statI (m.rel.length:Int) (m.val.length:Int) f
def holdsI (m:Mo) (f:List Nd):Nat×Int:=bif reqI m f != 0 then (0,reqI m f) else (vlT m m.n.toNat (root f),0)
theorem reqI_ok {m:Mo} {f:List Nd} (h:reqI m f=0):(∃ n,OkM m n)∧statI (m.rel.length:Int) (m.val.length:Int) f=0:=by
 unfold reqI at h
 cases h1:(moI m != 0) with
 |true=>rw[h1] at h;simp only[cond_true] at h;rw[h] at h1;cases h1
 |false =>
  rw[h1] at h
  exact⟨moI_ok (by simpa using h1),h⟩
theorem all_fit {m:Mo} {f:List Nd} (hA:m.rel.length≤4) (h:statI (m.rel.length:Int) (m.val.length:Int) f=0) (i:Nat):allT (fitQ m) (tree (comp f) i)=true:=by
 obtain⟨h1,h2⟩:=statM_iff.1 h
 refine trn_all (fun x hx => ?_) _ _
 obtain⟨k,hk⟩:=okl_mem (comp_okl f) hx
 exact fitQ_of hA hk (h2 x hx)
theorem last_V {m:Mo} {n:Nat} {f:List Nd} (hA:m.rel.length≤4) (h:statI (m.rel.length:Int) (m.val.length:Int) f=0):∃ v,(setsV m n f)[f.length-1]? = some v∧v.1=vlT m n (root f):=by
 have h1:=(statM_iff.1 h).1
 have hp:1≤f.length:=(check_ok h1).1
 have ha:allT (fitQ m) (tree f (f.length-1))=true:=by
  have:=all_fit hA h ((comp f).length-1)
  rw[show tree (comp f) ((comp f).length-1)=root f from root_comp h1] at this
  exact this
 have hg:=setsV_get (m:=m) (n:=n) (f:=f) (k:=f.length) (i:=f.length-1) (by omega) (Nat.le_refl _)
 rw[List.take_length,setsV_tree (check_okl h1) (f.length) (f.length-1) (by omega) (by omega) ha] at hg
 exact⟨_,hg,rfl⟩
structure Clo (Q:Int→Int→Int→Int→Bool):Prop where
 tt:Q 1 0 0 0=true
 ff:Q 2 0 0 0=true
 an:Q 5 0 0 0=true
 oo:Q 6 0 0 0=true
 im:Q 7 0 0 0=true
 kn:∀ i e g,Q 9 i e g=true→Q 9 ((i.toNat:Nat):Int) 0 0=true
 po:∀ i e g,Q 10 i e g=true→Q 10 i 0 0=true
 di:∀ i e g,Q 12 i e g=true→Q 12 0 0 g=true
 ev:∀ i e g (j:Nat),Q 11 i e g=true→(and64 (shr64 g j) 1==1)=true→j<4→Q 9 (j:Int) 0 0=true
section
variable {Q:Int→Int→Int→Int→Bool} (hQ:Clo Q)
end
def rgQ (Q:Int→Int→Int→Int→Bool) (op i e g:Int):Bool:=Q op i e g && (bif isGroup op then decide (1≤g) && decide (g<16) else true)
theorem rg_iff {Q:Int→Int→Int→Int→Bool} {op i e g:Int}:rgQ Q op i e g=true↔Q op i e g=true∧(isGroup op=true→1≤g∧g<16):=by
 rw[rgQ,Bool.and_eq_true]
 cases isGroup op<;>simp
theorem rg_no {Q:Int→Int→Int→Int→Bool} {op i e g:Int} (h:Q op i e g=true) (hg:isGroup op=false):rgQ Q op i e g=true:=rg_iff.2 ⟨h,fun u=>by rw[hg] at u;cases u⟩
theorem grp_bit {g:Int} {A j:Nat} (h1:1≤g) (h16:g<16) (h:g.toNat<2^A) (hj:(and64 (shr64 g j) 1==1)=true) (h4:j<4):j<A:=by
 obtain⟨k,rfl⟩:∃ k:Nat,g=k:=⟨g.toNat,by omega⟩
 rw[bit64_one (show k<2^62 by
                  have:(16:Nat)<2^62:=by decide
                  omega) (by omega)] at hj
 rw[Int.toNat_natCast] at h
 exact bit_lt h hj
theorem stM_iff {A F:Nat} {op i e g:Int}:stM A F op i e g=true↔(fragN ⟨op,i,e,g,0,0⟩<16∧agN ⟨op,i,e,g,0,0⟩<2^A)∧factN ⟨op,i,e,g,0,0⟩<2^F:=by
 simp only[stM,Bool.and_eq_true,decide_eq_true_eq]
theorem stM_clo (A F:Nat):Clo (rgQ (stM A F)):=by
 have hA:=Nat.two_pow_pos A
 have hF:=Nat.two_pow_pos F
 refine⟨?_,?_,?_,?_,?_,fun i e g h => ?_,fun i e g h => ?_,fun i e g h => ?_,fun i e g j h hj h4 => ?_⟩
 ·exact rg_no (stM_iff.2 ⟨⟨show 0<16 by decide,hA⟩,hF⟩) rfl
 ·exact rg_no (stM_iff.2 ⟨⟨show 0<16 by decide,hA⟩,hF⟩) rfl
 ·exact rg_no (stM_iff.2 ⟨⟨show 0<16 by decide,hA⟩,hF⟩) rfl
 ·exact rg_no (stM_iff.2 ⟨⟨show 0<16 by decide,hA⟩,hF⟩) rfl
 ·exact rg_no (stM_iff.2 ⟨⟨show 0<16 by decide,hA⟩,hF⟩) rfl
 ·obtain⟨⟨_,h2⟩,_⟩:=stM_iff.1 (rg_iff.1 h).1
  refine rg_no (stM_iff.2 ⟨⟨show 1<16 by decide,?_⟩,hF⟩) rfl
  show 2^((i.toNat:Nat):Int).toNat<2^A
  rw[Int.toNat_natCast];exact h2
 ·obtain⟨⟨_,h2⟩,_⟩:=stM_iff.1 (rg_iff.1 h).1
  exact rg_no (stM_iff.2 ⟨⟨show 1<16 by decide,h2⟩,hF⟩) rfl
 ·obtain⟨h1,hg⟩:=rg_iff.1 h
  obtain⟨⟨_,h2⟩,_⟩:=stM_iff.1 h1
  exact rg_iff.2 ⟨stM_iff.2 ⟨⟨show 4<16 by decide,h2⟩,hF⟩,hg⟩
 ·obtain⟨h1,hg⟩:=rg_iff.1 h
  obtain⟨⟨_,h2⟩,_⟩:=stM_iff.1 h1
  obtain⟨g1,g2⟩:=hg rfl
  refine rg_no (stM_iff.2 ⟨⟨show 1<16 by decide,?_⟩,hF⟩) rfl
  have h2:g.toNat<2^A:=h2
  show 2^((j:Nat):Int).toNat<2^A
  rw[Int.toNat_natCast]
  exact Nat.pow_lt_pow_right (by decide) (grp_bit g1 g2 h2 hj h4)
theorem chgs_stat {A F:Int}:∀ {l:List Asg} {last:Int},chgs A F l last=0→∀ x,x∈l→statI A F x.to=0
 | [],_,_,x,hx=>by cases hx
 |y::r,last,h,x,hx=>by
  rw[chgs] at h
  cases h1:(bif decide (y.fact<0) then true else decide (y.fact≥F)) with
  |true=>rw[h1] at h;cases h
  |false =>
   rw[h1] at h
   simp only[cond_false] at h
   cases h2:decide (y.fact≤last) with
   |true=>rw[h2] at h;cases h
   |false =>
    rw[h2] at h
    simp only[cond_false] at h
    cases h3:(statI A F y.to != 0) with
    |true=>rw[h3] at h;have h:statI A F y.to=0:=h;rw[h] at h3;cases h3
    |false =>
     rw[h3] at h
     rcases List.mem_cons.1 hx with rfl|hx
     ·simpa using h3
     ·exact chgs_stat (show chgs A F r y.fact=0 from h) x hx
theorem stat_comp {A F:Nat} {f:List Nd} (h:statI A F f=0):statI A F (comp f)=0:=by
 obtain⟨h1,h2⟩:=statM_iff.1 h
 exact statM_iff.2 ⟨comp_check h1,by rw[comp_comp h1];exact h2⟩
theorem stat_fact {A F i:Nat} (hi:i<F) (hF:F≤8):statI A F (buildL (nI 3 i) [])=0:=by
 obtain⟨h1,h2⟩:=one3 (i:=i) (by omega)
 rw[h1]
 refine statM_iff.2 ⟨h2,fun x hx => ?_⟩
 have hc:Can [nI 3 (i:Int)]:=by
  have hne:oneL (nI 3 (i:Int))≠[]:=by rw[← build_one,h1];simp
  have:=(one_inv hne).2.1
  rwa [← build_one,h1] at this
 rw[can_comp hc] at hx
 have hx:x=nI 3 (i:Int):=by simpa using hx
 subst hx
 simp only[stM,Bool.and_eq_true,decide_eq_true_eq]
 refine⟨⟨show 0<16 by decide,Nat.two_pow_pos A⟩,?_⟩
 show 2^(i:Int).toNat<2^F
 rw[Int.toNat_natCast]
 exact Nat.pow_lt_pow_right (by decide) hi
theorem valL_fit {A F i:Nat} (hi:i<F) (hF:F≤8):∀ {l:List Asg},(∀ x,x∈l→statI A F x.to=0)→statI A F (valL (i:Int) l)=0
 | [],_=>stat_fact hi hF
 |x::r,h=>by
  rw[valL]
  cases (x.fact==(i:Int)) with
  |true=>exact stat_comp (h x (by simp))
  |false=>exact valL_fit hi hF fun y hy=>h y (List.mem_cons_of_mem _ hy)
theorem stat_all {A F:Nat} {f:List Nd} (hc:Can f) (h:allT (rgQ (stM A F)) (root f)=true):statI A F f=0:=by
 refine statM_iff.2 ⟨hc.check,fun x hx => ?_⟩
 rw[comp_root hc.check] at hx
 exact (rg_iff.1 (finT_all (Q:=rgQ (stM A F)) _ _ h (by simp) x hx)).1
structure SmX (a:Act):Prop where
 fit:Fit a
 rel:a.rel.length≤1000
 post:∀ l,l∈a.post→l.length≤1000
def chkI (a:Act):Int:=actI a (min (a.rel.length:Int) 4) 8
theorem chk_ok {a:Act} (h:chkI a=0):OkA a a.rel.length 8∧actI a a.rel.length 8=0∧a.rel.length≤4∧min (a.rel.length:Int) 4=(a.rel.length:Int):=by
 have hO:=actI_ok h
 have h1:=hO.ags
 have h2:=hO.agn
 have h3:min (a.rel.length:Int) 4=(a.rel.length:Int):=h1
 refine⟨?_,?_,h2,h3⟩
 ·rw[h3] at hO;exact hO
 ·rw[chkI,h3] at h;exact h
theorem nd_fit {A F:Nat} {x:Nd} {k:Int} (hk:OkNd x k) (hs:stM A F x.op x.i x.e x.g=true) (hA:A≤4):x.op≤13∧(x.op=9∨x.op=10→x.i.toNat<A)∧(x.op=12→1≤x.g∧x.g<shl64 1 (A:Int)):=by
 obtain⟨⟨h1,h2⟩,_⟩:=stM_iff.1 hs
 have ho:=hk.op
 refine⟨?_,fun h => ?_,fun h => ?_⟩
 ·have key:∀ op:Nat,op<22→(frag (op:Int)).toNat<16→op≤13:=by decide
  have:=key x.op.toNat (by omega) (by rw[show ((x.op.toNat:Nat):Int)=x.op by omega];exact h1)
  omega
 ·have h2:agN x<2^A:=h2
  rw[agN,show isAgent x.op=true by rcases h with h|h<;>rw[h]<;>rfl,cond_true] at h2
  exact (Nat.pow_lt_pow_iff_right (by decide:1<2)).1 h2
 ·have h2:agN x<2^A:=h2
  rw[agN,show isAgent x.op=false by rw[h];rfl,cond_false] at h2
  have:=hk.group (by rw[h];rfl)
  rw[shl_n hA]
  omega
theorem orN_mm {m:Nd→Nat}:∀ {c:List Nd} {y:Nd},y∈c→m y |||orN m c=orN m c
 |x::r,y,h=>by
  rw[orN_cons]
  rcases List.mem_cons.1 h with rfl|h
  ·rw[← Nat.or_assoc,Nat.or_self]
  ·rw[← Nat.or_assoc,Nat.or_comm (m y),Nat.or_assoc,orN_mm h]
theorem no_13 {f:List Nd} (h:(and64 (frags f:Nat) 8 != 0)=false):∀ x,x∈comp f→x.op≠13:=fun x hx e=>by
 have hfr:frags f<2^62:=Nat.lt_of_lt_of_le (frags_lt f) (by decide)
 have h0:and64 (frags f:Nat) ((8:Nat):Int)=0:=by simpa using h
 rw[and64_nat hfr (by decide)] at h0
 have h0:frags f&&&8=0:=by omega
 have hin:fragN x |||frags f=frags f:=orN_mm hx
 have h8:fragN x=8:=by rw[fragN,e];rfl
 have:(frags f).testBit 3=true:=by rw[← hin,Nat.testBit_or,h8];rfl
 have h3:(frags f&&&8).testBit 3=true:=by rw[Nat.testBit_and,this];rfl
 rw[h0] at h3
 exact absurd h3 (by decide)
theorem grp_ok {a:Act} {g:Int} (h:actI a a.rel.length 8=0) (hg:1≤g∧g<shl64 1 (a.rel.length:Int)):badGr a g=false:=by
 rw[badGr,show aloneI a=actI a a.rel.length 8 from rfl,h,decide_eq_false (by omega),decide_eq_false (by omega)];rfl
def AftOk (a:Act) (f:List Nd):Prop:=∀ x,x∈comp f→x.op≤12∧(x.op=9∨x.op=10→x.i.toNat<a.rel.length)∧(x.op=12→badGr a x.g=false)
theorem aft_ok {a:Act} {f:List Nd} {F:Nat} (ha:actI a a.rel.length 8=0) (h4:a.rel.length≤4) (hs:∀ x,x∈comp f→stM a.rel.length F x.op x.i x.e x.g=true) (hc:(and64 (frags f:Nat) 8 != 0)=false):AftOk a f:=fun x hx=>by
 obtain⟨k,hk⟩:=okl_mem (comp_okl f) hx
 obtain⟨h1,h2,h3⟩:=nd_fit hk (hs x hx) h4
 have:=no_13 hc x hx
 exact⟨by omega,h2,fun h=>grp_ok ha (h3 h)⟩
def aftI (a:Act) (ev:Int) (f:List Nd):List Nd×Int :=
 bif chkI a != 0 then ([],chkI a) else bif check f != 0 then ([],check f) else bif badEv a ev then ([],6)
 else bif (bif !stB f then true else and64 (frags f:Nat) 8 != 0) then ([],10) else bif !fits f (min (a.rel.length:Int) 4) 8 then ([],2) else aftF a ev.toNat (comp f)
theorem statI_of {f:List Nd} {A F:Int} (h1:check f=0) (h2:stB f=true) (h3:fits f A F=true):statI A F f=0:=by
 rw[statI,h1,show (nand64' (frags f:Nat) 15 != 0)=false by
                                  have:nand64' (frags f:Nat) 15=0:=by simpa [stB] using h2
                                  rw[this];rfl,h3];rfl
theorem red_After (a:Act) (ev:Int) (f:List Nd) (hS:SmX a):PureFn Tryz.prog 110 [a.pv,.int .i64 ev,fpv f] (pairF (aftI a ev f)):=by
 have e1:((a.rel.map rowPV).length:Int)=(a.rel.length:Int):=by simp
 have e2:((a.pre.map fpv).length:Int)=(a.pre.length:Int):=by simp
 have hC:=ac_Check a (min ((a.rel.map rowPV).length:Int) 4) 8 hS.fit hS.rel hS.post
 have hCe:actI a (min ((a.rel.map rowPV).length:Int) 4) 8=chkI a:=by rw[e1];rfl
 rw[hCe] at hC
 have hF:=fm_Fits f (min ((a.rel.map rowPV).length:Int) 4) 8
 have hFe:fits f (min ((a.rel.map rowPV).length:Int) 4) 8=fits f (min (a.rel.length:Int) 4) 8:=by rw[e1]
 rw[hFe] at hF
 have hAf:=fun (ev:Nat) hA hev hcf hop=>red_after a 8 hA hS.fit hS.rel hS.post ev hev f hcf hop
 refine PureFn.intro mixed (fn:=Tryz.f110) rfl rfl rfl fun M w0 => ?_
 (try conv=>whnf);repeat' (first|(apply And.intro<;>try conv=>whnf)|(intro h;try conv=>whnf)|apply True.intro|(apply WhenQ.mk;(try conv=>whnf);rotate_left;(try conv=>whnf);rotate_right)|with_reducible assumption|(apply not_of;with_reducible assumption)|(refine PureFn.dy hC rfl ?_;try conv=>whnf)|(refine PureFn.dcq (f:=86) rfl ?_;try conv=>whnf)|(refine PureFn.dcq (f:=87) rfl ?_;try conv=>whnf)|(refine PureFn.dcq (f:=104) rfl ?_;try conv=>whnf)|(refine⟨_,_,fm_Check ?_,?_,?_⟩;rotate_left 1;(focus first|(refine⟨?_,trivial⟩<;>first|exact PLe.refl _|exact PLe.nil)|exact trivial);try conv=>whnf)|(refine⟨_,_,red_static ?_,?_,?_⟩;rotate_left 1;(focus first|(refine⟨?_,trivial⟩<;>first|exact PLe.refl _|exact PLe.nil)|exact trivial);try conv=>whnf)|(refine⟨_,_,fm_Frags ?_,?_,?_⟩;rotate_left 1;(focus first|(refine⟨?_,trivial⟩<;>first|exact PLe.refl _|exact PLe.nil)|exact trivial);try conv=>whnf)|fail)
 ·rw[aftI,show (chkI a != 0)=true from h];exact le_nilF _
 ·rename_i h1
  rw[aftI,show (chkI a != 0)=false from h1,show (check f != 0)=true from h];exact le_nilF _
 ·rename_i h1 h2
  have hb:badEv a ev=true:=by rw[badEv,← e2];exact h
  rw[aftI,show (chkI a != 0)=false from h1,show (check f != 0)=false from h2,hb];exact le_nilF _
 ·rename_i h1 h2 h3
  have hb:badEv a ev=false:=by rw[badEv,← e2];exact h3
  rw[aftI,show (chkI a != 0)=false from h1,show (check f != 0)=false from h2,hb,show (bif !stB f then true else and64 (frags f:Nat) 8 != 0)=true from h];exact le_nilF _
 ·rename_i h1 h2 h3
  have hb:badEv a ev=false:=by rw[badEv,← e2];exact h3
  have hst:(bif !stB f then true else and64 (frags f:Nat) 8 != 0)=false:=h
  have hI:∀ b,(!fits f (min (a.rel.length:Int) 4) 8)=b→aftI a ev f=bif b then ([],2) else aftF a ev.toNat (comp f):=fun b hb2=>by
   rw[aftI,show (chkI a != 0)=false from h1,show (check f != 0)=false from h2,hb,hst,hb2];rfl
  obtain⟨k,rfl,hk⟩:=badEv_no hb
  have hck:chkI a=0:=by simpa using h1
  have hcf:check f=0:=by simpa using h2
  obtain⟨c1,c2,c3,c4⟩:=chk_ok hck
  have hsb:stB f=true:=by
   cases q:stB f with
   |true=>rfl
   |false=>rw[q] at hst;cases hst
  have hc13:(and64 (frags f:Nat) 8 != 0)=false:=by rw[hsb] at hst;exact hst
  cases hq:(!fits f (min (a.rel.length:Int) 4) 8) with
  |true =>
   have hft:fits f (min (a.rel.length:Int) 4) 8=false:=by simpa using hq
   rw[hft] at hF
   (try conv=>whnf);repeat' (first|(apply And.intro<;>try conv=>whnf)|(intro h;first|with_reducible exact nf0 h|try conv=>whnf)|(refine PureFn.dy hF rfl ?_;try conv=>whnf)|fail)
   rw[hI _ hq];exact le_nilF _
  |false =>
   have hft:fits f (min (a.rel.length:Int) 4) 8=true:=by simpa using hq
   rw[hft] at hF
   have hs:statI (a.rel.length:Nat) (8:Nat) f=0:=statI_of hcf hsb (by rw[c4] at hft;exact hft)
   have hA:=hAf k c1 hk hcf (aft_ok c2 c3 (statM_iff.1 hs).2 hc13)
   (try conv=>whnf);repeat' (first|(apply And.intro<;>try conv=>whnf)|(intro h;first|with_reducible exact nt0 h|try conv=>whnf)|(refine PureFn.dy hF rfl ?_;try conv=>whnf)|(refine PureFn.dy hA rfl ?_;try conv=>whnf)|fail)
   rw[hI _ hq,Int.toNat_natCast];exact .refl _
end Go.Proofs.YtejbieopeicgkaaGreatDoor
namespace Go.Dv
open Go.RowKit (Below)
section
variable {P:Program}
def PanE (M:Nat→Prop) (r:Except Value PV) (e:Ending) (w':World):Prop :=
 match r with
 |.ok p=>∃ v,e=.returned v∧RelP M w' p v
 |.error x=>e=.panicked [{ v:=x,recovered:=false }]
@[irreducible] def PanFn (P:Program) (f:FuncId) (ps:List PV) (r:Except Value PV):Prop :=
 callable P f=true∧∀ (M:Nat→Prop) (w:World) (vs:List Value),Glb w→(∀ b,M b→b<w.heap.size)→RelPs M w ps vs →
  Calls P f ⟨vs⟩ w fun e w'=>Below w.heap.size w w'∧PanE M r e w'
theorem PanFn.elim {f:FuncId} {ps:List PV} {r:Except Value PV} (h:PanFn P f ps r):callable P f=true∧∀ (M:Nat→Prop) (w:World) (vs:List Value),Glb w→(∀ b,M b→b<w.heap.size)→RelPs M w ps vs →
  Calls P f ⟨vs⟩ w fun e w'=>Below w.heap.size w w'∧PanE M r e w':=by
 unfold PanFn at h;exact h
theorem PanFn.mk {f:FuncId} {ps:List PV} {r:Except Value PV} (h:callable P f=true∧∀ (M:Nat→Prop) (w:World) (vs:List Value),Glb w→(∀ b,M b→b<w.heap.size)→RelPs M w ps vs →
  Calls P f ⟨vs⟩ w fun e w'=>Below w.heap.size w w'∧PanE M r e w'):PanFn P f ps r:=by
 unfold PanFn;exact h
theorem PureFn.pan {f:FuncId} {ps:List PV} {p:PV} (h:PureFn P f ps p):PanFn P f ps (.ok p) :=
 PanFn.mk ⟨h.elim.1,fun M w vs hG hM hrel=>(h.elim.2 M w vs hG hM hrel).mono fun _ _ ⟨v,he,hv,hb⟩=>⟨hb,v,he,hv⟩⟩
theorem PanFn.introC (C:List Nat) (hm:P.follows .mixedOrders=true) {f:FuncId} {fn:Func} {c:Code} {ps:List PV} {r:Except Value PV} (hf:P.funcs[f]? = some fn) (hb:fn.body=some c) (hc:callable P f=true)
  (h:∀ (M:Nat→Prop) (w:World),vc P M ⟨w,fun v _=>r=.error v⟩ ⟨fn.ntmps,0⟩ C 0 0 c (retQ P fn fun d L'=>frz d { L' with base:=0 } (fun q _=>∃ p,r=.ok p∧PLe q p)) (argEnv (ps.map PV.dv) 0) noHeap) (hC:memB C rangeId=false:=by rfl):PanFn P f ps r:=by
 refine PanFn.mk ⟨hc,fun M w vs hG hM hrel => ?_⟩
 have hdc:DC P M ⟨w,fun v _=>r=.error v⟩ f (ps.map PV.dv) noHeap (fun d L'=>frz d L' (fun q _=>∃ p,r=.ok p∧PLe q p)):=DC.introC (L:=noHeap) C hm hf hb hc (h M w) hC
 have hr:HR M ⟨w,fun v _=>r=.error v⟩ (fun _=>⟨0,0⟩) noHeap w:=⟨Below.refl _ _,hM,fun k o hk=>(by cases hk),fun k o hk=>(by cases hk),fun k o k' o' hk=>(by cases hk),fun k o hk=>(by cases hk),Nat.le_refl _,Nat.le_refl _,hG⟩
 have hT:∀ b,Tot M (fun _=>⟨0,0⟩) noHeap b→M b:=fun b hb=>by
  rcases hb with hb|⟨k,o,hk,_⟩
  ·exact hb
  ·cases hk
 have hrel':RelPs (Tot M (fun _=>⟨0,0⟩) noHeap) w ps vs:=⟨hrel.1,fun i p v hp hv=>(hrel.2 i p v hp hv).sub hT⟩
 have nw:∀ b,¬ Wbl (fun _=>⟨0,0⟩) noHeap b:=by
  rintro b ⟨k,o,_,hk,_⟩
  cases hk
 refine (hdc.elim.2 _ w vs hr (unders_dv _ ps) hrel'.dv).mono ?_
 rintro e w' (⟨v,he,μ',d,L',hK,hr',hv,hu,hs⟩|⟨v,he,μ',L',hX,_,hs⟩)
 ·obtain⟨q,L2,⟨p,hp,hq⟩,hr2,_,h4⟩:=frz_rel d L' v _ hr' hv hu hK
  subst hp
  exact⟨⟨hs.os,hs.tape,hs.output,hs.size,fun b hb=>hs.same b hb (nw b)⟩,v,he,hq.rel (h4.sub fun b hb=>.inl hb)⟩
 ·have hX:r=.error v:=hX
  subst hX
  exact⟨⟨hs.os,hs.tape,hs.output,hs.size,fun b hb=>hs.same b hb (nw b)⟩,he⟩
theorem PanFn.dcq {M:Nat→Prop} {w0:W0} {f:FuncId} {args:List DV} {L:DH} {K:DV→DH→Prop} {ps:List PV} {r:Except Value PV} (h:PanFn P f ps r) (hk:frzs args L fun qs L'=>PLes qs ps∧match r with|.ok p=>K p.dv L'|.error v=>w0.X v L'):DC P M w0 f args L K:=by
 refine DC.mk ⟨h.elim.1,fun μ w vs hr hu ⟨hl,hrel⟩ => ?_⟩
 obtain⟨qs,L',⟨hle,hK⟩,hr',hs,hql,hqs⟩:=frzs_rel args L vs _ hr hl hrel hu hk
 refine (h.elim.2 (Tot M μ L') w vs (hr'.glb.ext hr'.ext) (fun b hb=>Tot.lt hr' hb) (hle.rel ⟨hql,hqs⟩)).mono ?_
 rintro e w' ⟨hbl,he⟩
 obtain⟨hs2,hr2⟩:=hr'.more hbl
 cases r with
 |ok p =>
  obtain⟨v,rfl,hv⟩:=he
  exact .inl ⟨v,rfl,μ,p.dv,L',hK,hr2,dv_rel hv,dv_under _ _,hs.trans hs2⟩
 |error x=>exact .inr ⟨x,he,μ,L',hK,hr2,hs.trans hs2⟩
def endQ (P:Program) (M:Nat→Prop) (w:World) (gn:Func) (c:Code) (a b:DV) (t2 t3:Nat) (v:Value) (L:DH) (K:DH→Prop):Prop :=
 vc P M ⟨w,fun _ _=>False⟩ ⟨gn.ntmps,0⟩ [] L.lo L.next c (fun x _ L'=>match x with|.normal=>K { L' with base:=L.base }|.ret=>K { L' with base:=L.base }|_=>False)
  (upd (upd (argEnv [a,b] 0) (some t3) (.raw v)) (some t2) (.raw v)) { L with base:=L.next }
theorem hr_base {M:Nat→Prop} {w1 w2:W0} (hw:w1.w=w2.w) {L:DH} (b:Nat) (hb:b≤L.next) {μ:Nat→Loc} {w:World} (h:HR M w1 μ L w):HR M w2 μ { L with base:=b } w :=
 (⟨h.ext,h.mlt,h.keys,h.live,h.inj,fun k o hk=>by
   have:=h.obj k o hk
   cases o with
   |var cs =>
    obtain⟨vs,ty,q1,q2,q3⟩:=this
    exact⟨vs,ty,q1,q2,fun i d v hi hv=>(q3 i d v hi hv).base b⟩
   |arr=>exact this
   |fz=>exact this
   |gone=>trivial
   |mp=>exact this,hb,h.lob,h.glb⟩:HR M w1 μ { L with base:=b } w).same hw
theorem sim_args {M:Nat→Prop} {w1:W0} {F:Fx} {N:NB} {μ:Nat→Loc} {L:DH} {w:World} {vs:List Value} {args:List DV} (n:Nat) (hF:Mks F [] w) (hN:N.b=0) (hn:N.n=n) (hr:HR M w1 μ L w) (hu:DV.unders L.next args=true) (hrel:RelVs (Tot M μ L) w μ L args vs) :
  Sim F M w1 N μ (argEnv args 0) L { tmps:=⟨vs⟩++Array.replicate (n-(⟨vs⟩:Array Value).size) undef,defers:=[] } w:=by
 refine⟨hr,fun t => ?_,fun t => ?_,hF,by rw[hn];simp;omega,fun t ht=>absurd ht (by omega)⟩
 ·rw[(argEnv_get args 0 t).2 (Nat.zero_le _),Nat.sub_zero]
  cases ha:args[t]? with
  |none=>exact .any _
  |some d =>
   have hlt:=getE_lt ha
   have hvt:vs[t]? = some (vs[t]'(by have:=hrel.1;omega)):=List.getElem?_eq_getElem (by have:=hrel.1;omega)
   have:(⟨vs⟩++Array.replicate (n-(⟨vs⟩:Array Value).size) undef).getD t undef=vs[t]'(by have:=hrel.1;omega):=by
    rw[Array.getD_eq_getD_getElem?,Array.getElem?_append_left (by have:=hrel.1;simp;omega)]
    simp[hvt]
   rw[this]
   exact hrel.2 t d _ ha hvt
 ·rw[(argEnv_get args 0 t).2 (Nat.zero_le _),Nat.sub_zero]
  cases ha:args[t]? with
  |none=>rfl
  |some d=>exact unders_iff.1 hu t d ha
theorem stp_base {L L':DH} {μ μ':Nat→Loc} {w w':World} (b:Nat) (hs:Stp { L with base:=b } μ w L' μ' w'):Stp L μ w { L' with base:=L.base } μ' w' :=
 ⟨⟨hs.evo.var,hs.evo.mp,hs.evo.arr,hs.evo.fz⟩,hs.os,hs.tape,hs.output,hs.size,hs.same,hs.blk,hs.next,hs.lo,rfl⟩
theorem cloD {g:FuncId} {gn:Func} {j:Nat} {o0 o1:Oper} {c:Code} {cl:Call} {t2 t3:Nat} {M:Nat→Prop} {w0:W0} {μ:Nat→Loc} {L:DH} {w:World} {va vb:Value} {a b:DV} {K:DH→Prop} {v:Value} {u:FrameMode}
  (hm:P.follows .mixedOrders=true) (hf:P.funcs[g]? = some gn) (hb:gn.body=some (.seq (.region j #[o0,o1] false) c))
  (h0:o0.op=.call cl) (hcl:cl.callee=.builtin .recover) (hg0:o0.guard=none) (hd0:o0.dst=some t3)
  (h1:o1.op=.assign (.tmp t3)) (hg1:o1.guard=none) (hd1:o1.dst=some t2) (hn2:t2<gn.ntmps) (hn3:t3<gn.ntmps) (hres:gn.results = #[])
  (hu:(u=.returning∧v=.nilIface)∨u=.panicking [{ v:=v,recovered:=false }])
  (hr:HR M w0 μ L w) (ha:RelV (Tot M μ L) w μ L a va) (hbv:RelV (Tot M μ L) w μ L b vb) (hua:a.under L.next=true) (hub:b.under L.next=true)
  (hv:endQ P M w0.w gn c a b t2 t3 v L K) :
  CallsD P g #[va,vb] u w fun e u' w'=>(∃ x,e=.returned x)∧settle u'=.returning∧∃ μ' L',K L'∧HR M w0 μ' L' w'∧Stp L μ w L' μ' w':=by
 refine callsD_of_wpS hf hb fun c₀ cs hc=>wpS_seq (wpS_region ?_)
 obtain⟨u1,hu1,hset⟩:∃ u1,(match recoverD (c₀::cs) with|some (x,cs')=>x=v∧cs'={ c₀ with mode:=u1 }::cs|none=>v=.nilIface∧c₀::cs={ c₀ with mode:=u1 }::cs)∧settle u1=.returning:=by
  rcases hu with⟨hu,hv⟩|hu
  ·subst hu
   refine⟨.returning,?_,rfl⟩
   have:recoverD (c₀::cs)=none:=by simp[recoverD,hc]
   rw[this]
   exact⟨hv,by rw[← hc]⟩
  ·subst hu
   refine⟨.panicking [{ v:=v,recovered:=true }],?_,rfl⟩
   have:recoverD (c₀::cs)=some (v,{ c₀ with mode:=.panicking [{ v:=v,recovered:=true }] }::cs):=by simp[recoverD,hc]
   rw[this]
   exact⟨rfl,rfl⟩
 have r0:∀ a:Act,(execOp a.eval o0).run P w=.ok .recover w:=fun a=>by rw[run_bi h0 hcl];rfl
 have r1:∀ a:Act,(execOp a.eval o1).run P w=.ok (.value (a.eval (.tmp t3))) w:=fun a=>by simp only[execOp,h1];rfl
 have hwan:∀ (o:Oper) (y:Nat→Option Bool),o.guard=none→Region.wanted o y=true:=fun o y h=>by unfold Region.wanted;rw[h]
 have hrel:RelVs (Tot M μ L) w μ { L with base:=L.next } [a,b] [va,vb]:=⟨rfl,fun i d x hd hx=>by
  match i,hd,hx with
  |0,hd,hx=>simp only[List.getElem?_cons_zero,Option.some.injEq] at hd hx;subst hd;subst hx;exact ha.base L.next
  |1,hd,hx=>simp only[List.getElem?_cons_succ,List.getElem?_cons_zero,Option.some.injEq] at hd hx;subst hd;subst hx;exact hbv.base L.next
  |i+2,hd,hx=>simp at hd⟩
 have hr1:HR M ⟨w0.w,fun _ _=>False⟩ μ { L with base:=L.next } w:=hr_base (w1:=w0) (by rfl) L.next (Nat.le_refl _) hr
 have hrefl:Stp { L with base:=L.next } μ w { L with base:=L.next } μ w:=Stp.refl _ μ w fun k o hk=>(hr.keys k o hk).1
 have s0:Sim ⟨[],fun _=>undef,none⟩ M ⟨w0.w,fun _ _=>False⟩ ⟨gn.ntmps,0⟩ μ (argEnv [a,b] 0) { L with base:=L.next } { tmps := #[va,vb]++Array.replicate (gn.ntmps-(#[va,vb]:Array Value).size) undef,defers:=[] } w :=
  sim_args (vs:=[va,vb]) gn.ntmps rfl rfl rfl hr1 (by simp only[DV.unders,hua,hub,Bool.and_true]) hrel
 have s1:=s0.step (dst:=some t3) (d:=.raw v) (v:=v) hrefl hr1 (.raw v) rfl (by simp[okDst,hn3])
 have s2:=s1.step (dst:=some t2) (d:=.raw v) (v:=v) hrefl hr1 (.raw v) rfl (by simp[okDst,hn2])
 have hrun:=wpIn_wide.1 (vc_sound (P:=P) (M:=M) (w0:=⟨w0.w,fun _ _=>False⟩) (N:=⟨gn.ntmps,0⟩) hm [] c none ⟨[],fun _=>undef,none⟩ L.lo L.next { L with base:=L.next } μ w (Nat.le_refl _) (fun hh=>by cases hh) _ _ _ μ _ w hv s2 hrefl rfl rfl)
 generalize ({ tmps := #[va,vb]++Array.replicate (gn.ntmps-(#[va,vb]:Array Value).size) undef,defers:=[] }:Act)=A at s0 s1 s2 hrun ⊢
 have hev:(A.put (some t3) v).eval (.tmp t3)=v:=by
  show (A.put (some t3) v).tmps.getD t3 undef=v
  rw[getD_put A t3 t3 v (Nat.lt_of_lt_of_le hn3 s0.size),if_pos rfl]
 have go:c.wpS P (bodyPostS P gn c₀ cs fun e u' w'=>(∃ x,e=.returned x)∧settle u'=.returning∧∃ μ' L',K L'∧HR M w0 μ' L' w'∧Stp L μ w L' μ' w') ((A.put (some t3) v).put (some t2) v) ({ c₀ with mode:=u1 }::cs) w:=by
  refine wpS_of_wp (wp_mono hrun ?_)
  have fin:∀ a' w' μ' e' L',Sim ⟨[],fun _=>undef,none⟩ M ⟨w0.w,fun _ _=>False⟩ ⟨gn.ntmps,0⟩ μ' e' L' a' w'→Stp { L with base:=L.next } μ w L' μ' w'→K { L' with base:=L.base } →
    a'.defers=[]∧∃ u',{ c₀ with mode:=u1 }::cs={ c₀ with mode:=u' }::cs∧∃ x,(results gn a'.tmps).run P w'=.ok x w'∧(∃ y,(Ending.returned x)=.returned y)∧settle u'=.returning∧∃ μ' L',K L'∧HR M w0 μ' L' w'∧Stp L μ w L' μ' w':=by
   intro a' w' μ' e' L' h' hs' hK
   refine⟨h'.defers,u1,rfl,.tuple #[],?_,⟨_,rfl⟩,hset,μ',_,hK,hr_base (w1:=⟨w0.w,fun _ _=>False⟩) (by rfl) L.base (Nat.le_trans hr.base hs'.next) h'.hr,stp_base _ hs'⟩
   simp[results,hres]
  intro x a' w' hz
  cases x with
  |normal =>
   obtain⟨μ',e',L',h',hs',_,_,hq⟩:=hz
   exact fin a' w' μ' e' L' h' hs' hq
  |ret =>
   obtain⟨μ',e',L',h',hs',_,_,hq⟩:=hz
   exact fin a' w' μ' e' L' h' hs' hq
  |panic ch =>
   obtain⟨_,_,_,_,_,_,h1,_⟩:=hz
   exact h1.elim
  |_ =>
   obtain⟨μ',e',L',h',hs',_,_,hq⟩:=hz
   exact hq.elim
 show wpOpsS P #[o0,o1] _ [0,1] _ _ _
 simp only[wpOpsS,List.getElem?_toArray,List.getElem?_cons_zero,List.getElem?_cons_succ,hwan o0 _ hg0,hwan o1 _ hg1,r0,r1,if_true,Oper.upon,hd0,hd1]
 cases hrec:recoverD (c₀::cs) with
 |none =>
  rw[hrec] at hu1
  obtain⟨e1,e2⟩:=hu1
  simp only
  rw[← e1,hev,e2]
  exact go
 |some q =>
  obtain⟨x,cs'⟩:=q
  rw[hrec] at hu1
  obtain⟨e1,e2⟩:=hu1
  simp only
  subst e1
  rw[hev,e2]
  exact go
theorem stp_re {L L':DH} {μ μ':Nat→Loc} {w w':World} (b:Nat) (hs:Stp L μ w L' μ' w'):Stp { L with base:=b } μ w { L' with base:=b } μ' w' :=
 ⟨⟨hs.evo.var,hs.evo.mp,hs.evo.arr,hs.evo.fz⟩,hs.os,hs.tape,hs.output,hs.size,hs.same,hs.blk,hs.next,hs.lo,rfl⟩
def two (dx dy:DV) (x y:Nat):Env:=fun t=>bif Nat.beq t x then dx else bif Nat.beq t y then dy else .any
def endR (P:Program) (M:Nat→Prop) (w:World) (fn gn:Func) (c:Code) (dx dy:DV) (x y t2 t3 b0:Nat) (K:DV→DH→Prop) (v:Value) (L:DH):Prop :=
 endQ P M w gn c dx dy t2 t3 v L fun L3=>resV P (two dx dy x y) L3 fn.results.toList fun ds=>match ds with|[d]=>K d { L3 with base:=b0 }|ds=>K (.tup ds) { L3 with base:=b0 }
theorem DC.introD {M:Nat→Prop} {w0:W0} (C:List Nat) (B:Nat) (hm:P.follows .mixedOrders=true) {f g:FuncId} {fn gn:Func} {r0 rest c:Code} {id j:Nat} {o0 o1 p0 p1:Oper} {cd cl:Call} {x y tc t2 t3:Nat} {args:List DV} {L:DH} {K:DV→DH→Prop}
  (hf:P.funcs[f]? = some fn) (hb:fn.body=some (.seq r0 (.seq (.region id #[o0,o1] false) rest))) (hc:callable P f=true)
  (h0:o0.op=.makeFunc (.func g) #[] #[.tmp x,.tmp y]) (g0:o0.guard=none) (d0:o0.dst=some tc) (htc:tc<fn.ntmps) (hB:B≤tc) (hx:x<B) (hy:y<B)
  (h1:o1.op=.defer cd) (hcd:cd.callee=.value (.tmp tc)) (had:cd.args = #[]) (g1:o1.guard=none) (d1:o1.dst=none)
  (hgf:P.funcs[g]? = some gn) (hgb:gn.body=some (.seq (.region j #[p0,p1] false) c)) (hgc:callable P g=true)
  (k0:p0.op=.call cl) (hcl:cl.callee=.builtin .recover) (e0:p0.guard=none) (f0:p0.dst=some t3)
  (k1:p1.op=.assign (.tmp t3)) (e1:p1.guard=none) (f1:p1.dst=some t2) (hn2:t2<gn.ntmps) (hn3:t3<gn.ntmps) (hres:gn.results = #[])
  (h:vc P M ⟨w0.w,fun _ _=>False⟩ ⟨fn.ntmps,0⟩ C L.lo L.next r0 (fun q e L1=>match q with
   |.normal=>∃ (nb:Nat) (dx dy:DV),L1.next=nb∧e x=dx∧e y=dy∧vc P M ⟨w0.w,endR P M w0.w fn gn c dx dy x y t2 t3 L.base K⟩ ⟨fn.ntmps,B⟩ C L.lo nb rest (fun q _ L2=>match q with
    |.normal=>endR P M w0.w fn gn c dx dy x y t2 t3 L.base K .nilIface L2
    |.ret=>endR P M w0.w fn gn c dx dy x y t2 t3 L.base K .nilIface L2
    |_=>False) (upd e (some tc) (.clo g [] [dx,dy])) { L1 with base:=nb }
   |_=>False) (argEnv args 0) { L with base:=L.next }) (hC:memB C rangeId=false:=by rfl):DC P M w0 f args L K:=by
 refine DC.mk ⟨hc,fun μ w vs hr hu hrel => ?_⟩
 refine calls_of_wp_defers hf hb (wp_seq ?_)
 have hr0:HR M ⟨w0.w,fun _ _=>False⟩ μ { L with base:=L.next } w:=hr_base (w1:=w0) (by rfl) L.next (Nat.le_refl _) hr
 have hrel0:RelVs (Tot M μ L) w μ { L with base:=L.next } args vs:=⟨hrel.1,fun i d v hd hv=>(hrel.2 i d v hd hv).base L.next⟩
 have s0:Sim ⟨[],fun _=>undef,none⟩ M ⟨w0.w,fun _ _=>False⟩ ⟨fn.ntmps,0⟩ μ (argEnv args 0) { L with base:=L.next } { tmps:=⟨vs⟩++Array.replicate (fn.ntmps-(⟨vs⟩:Array Value).size) undef,defers:=[] } w:=sim_args fn.ntmps rfl rfl rfl hr0 hu hrel0
 have hrefl:Stp { L with base:=L.next } μ w { L with base:=L.next } μ w:=Stp.refl _ μ w fun k o hk=>(hr.keys k o hk).1
 have hA:=wpIn_wide.1 (vc_sound (P:=P) (M:=M) (w0:=⟨w0.w,fun _ _=>False⟩) (N:=⟨fn.ntmps,0⟩) hm C r0 none ⟨[],fun _=>undef,none⟩ L.lo L.next { L with base:=L.next } μ w (Nat.le_refl _) (fun hh=>by rw[hC] at hh;cases hh) _ _ _ μ _ w h s0 hrefl rfl rfl)
 refine wp_mono hA ?_
 clear hA s0 hrefl
 have hwan:∀ (o:Oper) (y:Nat→Option Bool),o.guard=none→Region.wanted o y=true:=fun o y h=>by unfold Region.wanted;rw[h]
 intro q a1 w1 hz
 cases q with
 |normal =>
  obtain⟨μ1,e,L1,s1,st1,lo1,b1,nb,dx,dy,rfl,rfl,rfl,hq⟩:=hz
  refine wp_seq (wp_region ?_)
  have hvx:=s1.env x
  have hvy:=s1.env y
  have hux:=s1.und x
  have huy:=s1.und y
  obtain⟨vx,hvxe⟩:∃ v,a1.tmps.getD x undef=v:=⟨_,rfl⟩
  obtain⟨vy,hvye⟩:∃ v,a1.tmps.getD y undef=v:=⟨_,rfl⟩
  rw[hvxe] at hvx
  rw[hvye] at hvy
  have htl:tc<a1.tmps.size:=Nat.lt_of_lt_of_le htc s1.size
  obtain⟨vf,hvf⟩:∃ vf,vf=Value.func (.func g) #[] #[vx,vy]:=⟨_,rfl⟩
  have r0':(execOp a1.eval o0).run P w1=.ok (.value vf) w1:=by
   have ex:a1.eval (.tmp x)=vx:=hvxe
   have ey:a1.eval (.tmp y)=vy:=hvye
   simp[execOp,h0,Instr.makeFunc,ex,ey,hvf]
  have htcv:(a1.put (some tc) vf).eval (.tmp tc)=vf:=by
   show (a1.put (some tc) vf).tmps.getD tc undef=vf
   rw[getD_put a1 tc tc vf htl,if_pos rfl]
  have r1':(execOp (a1.put (some tc) vf).eval o1).run P w1=.ok (.defer { target:=.fn (.func g) #[vx,vy],args := #[] }) w1:=by
   have e9:(a1.put (some tc) vf).eval (.tmp tc)=.func (.func g) #[] #[vx,vy]:=htcv.trans hvf
   simp[execOp,h1,resolve,hcd,had,Deferred.ofValue,e9]
  have hst1:Stp L μ w { L1 with base:=L.base } μ1 w1:=stp_base _ st1
  have hrL1:HR M ⟨w0.w,endR P M w0.w fn gn c (e x) (e y) x y t2 t3 L.base K⟩ μ1 { L1 with base:=L1.next } w1:=hr_base (w1:=⟨w0.w,fun _ _=>False⟩) (by rfl) L1.next (Nat.le_refl _) s1.hr
  have hrefl1:Stp { L1 with base:=L1.next } μ1 w1 { L1 with base:=L1.next } μ1 w1:=Stp.refl _ μ1 w1 fun k o hk=>(s1.hr.keys k o hk).1
  have hclo:RelV (Tot M μ1 L1) w1 μ1 L1 (.clo g [] [e x,e y]) vf:=by
   rw[hvf]
   refine .clo g [] [e x,e y] [] [vx,vy] rfl rfl (fun i d v hd _=>by simp at hd) (fun i d v hd hv => ?_)
   match i,hd,hv with
   |0,hd,hv=>simp only[List.getElem?_cons_zero,Option.some.injEq] at hd hv;subst hd;subst hv;exact hvx
   |1,hd,hv=>simp only[List.getElem?_cons_succ,List.getElem?_cons_zero,Option.some.injEq] at hd hv;subst hd;subst hv;exact hvy
   |i+2,hd,hv=>simp at hd
  have s2:=s1.step (dst:=some tc) (d:=.clo g [] [e x,e y]) (v:=vf) (Stp.refl L1 μ1 w1 fun k o hk=>(s1.hr.keys k o hk).1) s1.hr hclo (by simp only[DV.under,DV.unders,hux,huy,Bool.and_true]) (by simp[okDst,htc])
  have s3:Sim ⟨[{ target:=.fn (.func g) #[vx,vy],args := #[] }],fun t=>a1.tmps.getD t undef,none⟩ M ⟨w0.w,endR P M w0.w fn gn c (e x) (e y) x y t2 t3 L.base K⟩ ⟨fn.ntmps,B⟩ μ1 (upd e (some tc) (.clo g [] [e x,e y])) { L1 with base:=L1.next }
    ({ a1.put (some tc) vf with defers:={ target:=.fn (.func g) #[vx,vy],args := #[] }::(a1.put (some tc) vf).defers }) w1:=by
   refine⟨hrL1,fun t=>(s2.env t).base _,fun t=>s2.und t,?_,s2.size,fun t ht => ?_⟩
   ·show _::a1.defers=_
    rw[show a1.defers=[] from s1.defers]
   ·show (a1.put (some tc) vf).tmps.getD t undef=_
    rw[getD_put a1 tc t vf htl,if_neg (by have ht:t<B:=ht;omega)]
  have hrun:=wpIn_wide.1 (vc_sound (P:=P) (M:=M) hm C rest none _ L.lo L1.next { L1 with base:=L1.next } μ1 w1 (Nat.le_refl _) (fun hh=>by rw[hC] at hh;cases hh) _ _ _ μ1 _ w1 hq s3 hrefl1 lo1 rfl)
  have fin:∀ (a':Act) (w2:World) (μ2:Nat→Loc) (L2:DH) (u:FrameMode) (v:Value),((u=.returning∧v=.nilIface)∨u=.panicking [{ v:=v,recovered:=false }]) →
    a'.defers=[{ target:=.fn (.func g) #[vx,vy],args := #[] }]→(∀ t,t<B→a'.tmps.getD t undef=a1.tmps.getD t undef)→endR P M w0.w fn gn c (e x) (e y) x y t2 t3 L.base K v L2 →
    HR M ⟨w0.w,endR P M w0.w fn gn c (e x) (e y) x y t2 t3 L.base K⟩ μ2 L2 w2→Stp { L1 with base:=L1.next } μ1 w1 L2 μ2 w2→Leaves P fn a'.tmps (Fin M w0 μ L w K) a'.defers u w2:=by
   intro a' w2 μ2 L2 u v hu2 hd hfix hE hr2 st2
   rw[hd]
   have hx2:=(hvx.base L1.next).stp st2 hux
   have hy2:=(hvy.base L1.next).stp st2 huy
   have hux2:=DV.under_mono st2.next _ hux
   have huy2:=DV.under_mono st2.next _ huy
   have hinv:(invoke (.fn (.func g) #[vx,vy]) #[]).run P w2=.ok (.enter g #[vx,vy]) w2:=by
    unfold callable at hgc
    rw[hgf] at hgc
    simp only[Bool.and_eq_true,Bool.not_eq_true'] at hgc
    have q2:gn.body.isNone=false:=by rw[hgb];rfl
    simp only[invoke,callFunc,Sem.run_bind,run_program,Result.andThen_ok,hgf,hgc.1,q2,Bool.false_eq_true,if_false,Sem.run_pure]
    rfl
   have hne:u≠.run:=by
    rcases hu2 with⟨h,_⟩|h<;>rw[h]<;>intro h<;>cases h
   refine leaves_cons hne hinv ((cloD hm hgf hgb k0 hcl e0 f0 k1 e1 f1 hn2 hn3 hres hu2 hr2 hx2 hy2 hux2 huy2 hE).mono ?_)
   rintro en u' w3 ⟨⟨z,rfl⟩,hset,μ3,L3,hR,hr3,st3⟩
   show Leaves P fn a'.tmps _ [] (settle u') w3
   rw[hset]
   have hx3:=hx2.stp st3 hux2
   have hy3:=hy2.stp st3 huy2
   have hux3:=DV.under_mono st3.next _ hux2
   have huy3:=DV.under_mono st3.next _ huy2
   have hS:Sim ⟨a'.defers,fun _=>undef,none⟩ M w0 ⟨0,0⟩ μ3 (two (e x) (e y) x y) L3 a' w3:=by
    refine⟨hr3.same rfl,fun t => ?_,fun t => ?_,rfl,Nat.zero_le _,fun t ht=>absurd ht (Nat.not_lt_zero t)⟩
    ·unfold two
     cases ht:Nat.beq t x with
     |true=>rw[Nat.eq_of_beq_eq_true ht,hfix x hx,hvxe];exact hx3
     |false =>
      cases ht':Nat.beq t y with
      |true=>rw[Nat.eq_of_beq_eq_true ht',hfix y hy,hvye];exact hy3
      |false=>exact .any _
    ·unfold two
     cases ht:Nat.beq t x with
     |true=>exact hux3
     |false =>
      cases ht':Nat.beq t y with
      |true=>exact huy3
      |false=>rfl
   obtain⟨d,v',q1,q2,q3,q4⟩:=results_run (K:=fun d L'=>K d { L' with base:=L.base }) hS hR
   have st4:Stp { { L1 with base:=L1.next } with base:=L.base } μ1 w1 { L3 with base:=L.base } μ3 w3:=stp_re L.base (st2.trans st3)
   have hfin:Stp L μ w { L3 with base:=L.base } μ3 w3:=hst1.trans st4
   have hrf:HR M w0 μ3 { L3 with base:=L.base } w3:=hr_base (L:=L3) (w1:=⟨w0.w,endR P M w0.w fn gn c (e x) (e y) x y t2 t3 L.base K⟩) (by rfl) L.base (Nat.le_trans hr.base hfin.next) hr3
   exact⟨v',q2,.inl ⟨v',rfl,μ3,d,{ L3 with base:=L.base },q1,hrf,q3.base L.base,q4,hfin⟩⟩
  show wpOps P #[o0,o1] _ [0,1] _ _
  simp only[wpOps,List.getElem?_toArray,List.getElem?_cons_zero,List.getElem?_cons_succ,hwan o0 _ g0,hwan o1 _ g1,if_true]
  refine .inl ?_
  unfold Oper.wp
  rw[r0']
  simp only[Oper.upon,d0]
  rw[r1']
  simp only[d1]
  refine .inl ?_
  show Code.wp P rest _ _ _
  refine wp_mono hrun ?_
  intro q a' w2 hz
  cases q with
  |normal =>
   obtain⟨μ2,e2,L2,h2,st2,_,_,hE⟩:=hz
   exact fin a' w2 μ2 L2 _ _ (.inl ⟨rfl,rfl⟩) h2.defers h2.fix hE h2.hr st2
  |ret =>
   obtain⟨μ2,e2,L2,h2,st2,_,_,hE⟩:=hz
   exact fin a' w2 μ2 L2 _ _ (.inl ⟨rfl,rfl⟩) h2.defers h2.fix hE h2.hr st2
  |panic ch =>
   obtain⟨hd,hfix,v,μ2,L2,rfl,hX,hr2,st2⟩:=hz
   exact fin a' w2 μ2 L2 _ v (.inr rfl) (hd rfl) hfix hX hr2 st2
  |_ =>
   obtain⟨μ2,e2,L2,h2,st2,_,_,hE⟩:=hz
   exact hE.elim
 |panic ch =>
  obtain⟨_,_,_,_,_,_,h1,_⟩:=hz
  exact h1.elim
 |_ =>
  obtain⟨μ2,e2,L2,h2,st2,_,_,hE⟩:=hz
  exact hE.elim
theorem PureFn.ofDC {f:FuncId} {ps:List PV} {p:PV} (hc:callable P f=true) (h:∀ (M:Nat→Prop) (w:World),DC P M ⟨w,fun _ _=>False⟩ f (ps.map PV.dv) noHeap fun d L'=>frz d L' fun q _=>PLe q p):PureFn P f ps p:=by
 refine PureFn.mk ⟨hc,fun M w vs hG hM hrel => ?_⟩
 have hr:HR M ⟨w,fun _ _=>False⟩ (fun _=>⟨0,0⟩) noHeap w:=⟨Below.refl _ _,hM,fun k o hk=>(by cases hk),fun k o hk=>(by cases hk),fun k o k' o' hk=>(by cases hk),fun k o hk=>(by cases hk),Nat.le_refl _,Nat.le_refl _,hG⟩
 have hT:∀ b,Tot M (fun _=>⟨0,0⟩) noHeap b→M b:=fun b hb=>by
  rcases hb with hb|⟨k,o,hk,_⟩
  ·exact hb
  ·cases hk
 have hrel':RelPs (Tot M (fun _=>⟨0,0⟩) noHeap) w ps vs:=⟨hrel.1,fun i p v hp hv=>(hrel.2 i p v hp hv).sub hT⟩
 refine ((h M w).elim.2 _ w vs hr (unders_dv _ ps) hrel'.dv).mono ?_
 rintro e w' (⟨v,he,μ',d,L',hK,hr',hv,hu,hs⟩|⟨v,_,μ',L',hX,_⟩)
 case inr=>exact hX.elim
 refine⟨v,he,?_,⟨hs.os,hs.tape,hs.output,hs.size,fun b hb=>hs.same b hb ?_⟩⟩
 ·obtain⟨q,L2,hq,hr2,_,h4⟩:=frz_rel d L' v _ hr' hv hu hK
  exact hq.rel (h4.sub fun b hb=>.inl hb)
 ·rintro⟨k,o,_,hk,_⟩
  cases hk
def Plan.ofL:List Nat→Plan
 | []=>.done
 |i::r=>.one i (Plan.ofL r)
theorem ExtV.put {L:DH} {k:Nat} {o:DObj} (h:∀ cs,L.get k=some (.var cs)→False):ExtV L (L.put k o):=by
 intro j cs hj
 by_cases e:j=k
 ·subst e;exact absurd hj (h cs)
 ·rw[DH.put_ne L o e];exact hj
end
end Go.Dv
namespace Go.Proofs.YtejbieopeicgkaaGreatDoor
theorem take_map {α β:Type} {f:α→β} {l:List α} {i:Nat} {x:α} (h:l[i]? = some x):(l.take (i+1)).map f=(l.take i).map f++[f x]:=by
 obtain⟨h1,h2⟩:=List.getElem?_eq_some_iff.1 h
 rw[List.take_succ_eq_append_getElem h1,List.map_append,h2];rfl
open Go Go.Dv
def pan (c:Int):Value:=.iface 111 (.agg #[.int .i64 c])
def toE {β:Type} (g:β→PV):Except Int β→Except Value PV
 |.ok x=>.ok (g x)
 |.error c=>.error (pan c)
def runE {α β:Type} (c:α→Except Int β):List α→Except Int (List β)
 | []=>.ok []
 |x::r=>match c x with
  |.error e=>.error e
  |.ok y=>match runE c r with
   |.error e=>.error e
   |.ok l=>.ok (y::l)
theorem runE_snoc {α β:Type} {c:α→Except Int β}:∀ {l:List α} {acc:List β} {x:α} {y:β},runE c l=.ok acc→c x=.ok y→runE c (l++[x])=.ok (acc++[y])
 | [],acc,x,y,h,hx=>by
  cases h
  show (match c x with|.error e=>_|.ok y=>_)=_
  rw[hx];rfl
 |a::l,acc,x,y,h,hx=>by
  rw[runE] at h
  show (match c a with|.error e=>_|.ok y=>_)=_
  cases ha:c a with
  |error e=>rw[ha] at h;cases h
  |ok z =>
   rw[ha] at h
   simp only at h ⊢
   cases hr:runE c l with
   |error e=>rw[hr] at h;cases h
   |ok q =>
    rw[hr] at h
    cases h
    rw[show l.append [x]=l++[x] from rfl,runE_snoc hr hx];rfl
theorem runE_stop {α β:Type} {c:α→Except Int β}:∀ {l r:List α} {acc:List β} {x:α} {e:Int},runE c l=.ok acc→c x=.error e→runE c (l++x::r)=.error e
 | [],r,acc,x,e,h,hx=>by
  show (match c x with|.error e=>_|.ok y=>_)=_
  rw[hx]
 |a::l,r,acc,x,e,h,hx=>by
  rw[runE] at h
  show (match c a with|.error e=>_|.ok y=>_)=_
  cases ha:c a with
  |error e=>rw[ha] at h;cases h
  |ok z =>
   rw[ha] at h
   simp only at h ⊢
   cases hr:runE c l with
   |error e=>rw[hr] at h;cases h
   |ok q=>rw[show l.append (x::r)=l++x::r from rfl,runE_stop hr hx]
theorem runE_len {α β:Type} {c:α→Except Int β}:∀ {l:List α} {acc:List β},runE c l=.ok acc→acc.length=l.length
 | [],acc,h=>by cases h;rfl
 |a::l,acc,h=>by
  rw[runE] at h
  cases ha:c a with
  |error e=>rw[ha] at h;cases h
  |ok z =>
   rw[ha] at h
   simp only at h
   cases hr:runE c l with
   |error e=>rw[hr] at h;cases h
   |ok q=>rw[hr] at h;cases h;simp[runE_len hr]
theorem runE_take {α β:Type} {c:α→Except Int β} {l:List α} {acc:List β} {k:Nat} {x:α} {y:β} (h:runE c (l.take k)=.ok acc) (hx:l[k]? = some x) (hy:c x=.ok y):runE c (l.take (k+1))=.ok (acc++[y]):=by
 rw[List.take_add_one,hx]
 exact runE_snoc h hy
theorem runE_bad {α β:Type} {c:α→Except Int β} {l:List α} {acc:List β} {k:Nat} {x:α} {e:Int} (h:runE c (l.take k)=.ok acc) (hx:l[k]? = some x) (hy:c x=.error e):runE c l=.error e:=by
 obtain⟨hk,hxe⟩:=List.getElem?_eq_some_iff.1 hx
 rw[← List.take_append_drop k l,List.drop_eq_getElem_cons hk,hxe]
 exact runE_stop h hy
def prs (n m:Nat):List (Nat×Nat):=(List.range (n*m)).map fun k=>(k / m,k % m)
theorem prs_len (n m:Nat):(prs n m).length=n*m:=by simp[prs]
theorem prs_get {n m e f:Nat} (he:e<n) (hf:f<m):(prs n m)[e*m+f]? = some (e,f):=by
 have h1:e*m+f<n*m:=by
  have:=Nat.mul_le_mul_right m (Nat.succ_le_of_lt he)
  rw[Nat.succ_mul] at this;omega
 have h2:(e*m+f) / m=e:=by
  rw[Nat.mul_comm,Nat.mul_add_div (by omega),Nat.div_eq_of_lt hf];rfl
 have h3:(e*m+f) % m=f:=by
  rw[Nat.mul_comm,Nat.mul_add_mod,Nat.mod_eq_of_lt hf]
 simp only[prs,List.getElem?_map,List.getElem?_range h1,Option.map_some,h2,h3]
def aftE (a:Act) (e:Nat) (f:List Nd):Except Int (List Nd):=match aftI a e f with
 |(g,c)=>bif c != 0 then .error c else .ok g
def insA:List Asg→Asg→List Asg
 | [],x=>[x]
 |y::r,x=>bif decide (y.fact<x.fact) then y::insA r x else bif decide (y.fact=x.fact) then ⟨y.fact,x.to⟩::r else x::y::r
def compA (l:List Asg):List Asg:=l.map fun x=>⟨x.fact,comp x.to⟩
def addE (a:Act) (e:Nat):List Asg→List Asg→Except Int (List Asg)
 |out,[]=>.ok out
 |out,x::r=>match aftE a e x.to with
  |.error c=>.error c
  |.ok to=>addE a e (insA out ⟨x.fact,to⟩) r
def asgE (a:Act) (e:Nat) (second:List Asg):Except Int (List Asg):=addE a e (compA (a.post.getD e [])) second
def cellE (a b:Act) (q:Nat×Nat):Except Int (List Nd×List Asg):=match aftE a q.1 (b.pre.getD q.2 []) with
 |.error c=>.error c
 |.ok g=>bif (buildL (n0 5) [a.pre.getD q.1 [],g]).isEmpty then .error 8 else match asgE a q.1 (b.post.getD q.2 []) with
  |.error c=>.error c
  |.ok l=>.ok (buildL (n0 5) [a.pre.getD q.1 [],g],l)
def joinN (x y m:Nat):Nat→Nat
 |0=>0
 |g+1=>bif x.testBit g then joinN x y m g |||(y*2^(g*m)) else joinN x y m g
def rowC (r s:List Nat) (n m:Nat):List Nat:=(prs n m).map fun q=>joinN (r.getD q.1 0) (s.getD q.2 0) m n
def relsC (a b:Act):List (List Nat):=(List.range a.rel.length).map fun i=>rowC (a.rel.getD i []) (b.rel.getD i []) a.pre.length b.pre.length
def composeI (a b:Act):Act×Int :=
 bif aloneI a != 0 then (noAct,aloneI a) else bif aloneI b != 0 then (noAct,aloneI b) else bif ((a.rel.length:Int) != (b.rel.length:Int)) then (noAct,1)
 else bif decide ((a.pre.length:Int)*(b.pre.length:Int)>8) then (noAct,8) else match runE (cellE a b) (prs a.pre.length b.pre.length) with
  |.error c=>(noAct,c)
  |.ok l=>(⟨l.map (·.1),l.map (·.2),relsC a b⟩,0)
theorem joinN_lt {x y m:Nat} (hy:y<2^m):∀ g,joinN x y m g<2^(g*m)
 |0=>by rw[joinN];exact Nat.two_pow_pos _
 |g+1=>by
  have h1:=joinN_lt (x:=x) hy g
  have h2:2^(g*m)≤2^((g+1)*m):=Nat.pow_le_pow_right (by decide) (by rw[Nat.succ_mul];omega)
  rw[joinN]
  cases x.testBit g with
  |false=>exact Nat.lt_of_lt_of_le h1 h2
  |true =>
   refine Nat.or_lt_two_pow (Nat.lt_of_lt_of_le h1 h2) ?_
   rw[Nat.succ_mul,Nat.pow_add,Nat.mul_comm]
   exact Nat.mul_lt_mul_of_pos_left hy (Nat.two_pow_pos _)
theorem shlU_mul {y k:Nat} (hk:k<64) (h:y*2^k<2^64):shlU (y:Int) (k:Int)=((y*2^k:Nat):Int):=by
 unfold shlU
 rw[show min ((k:Int)).toNat (IntKind.bits .u64)=k from Nat.min_eq_left (by show k≤64;omega),show ((y:Int)*2^k)=((y*2^k:Nat):Int) by simp]
 generalize y*2^k=m at *
 exact wrapU (by omega) (by omega)
section
variable {a b:Act} {e f:Nat} {pa pb g:List Nd} {qb:List Asg}
theorem cellE_eq (h1:a.pre.getD e []=pa) (h2:b.pre.getD f []=pb) (h3:b.post.getD f []=qb):cellE a b (e,f)=match aftE a e pb with
 |.error c=>.error c
 |.ok g=>bif (buildL (n0 5) [pa,g]).isEmpty then .error 8 else match asgE a e qb with
  |.error c=>.error c
  |.ok l=>.ok (buildL (n0 5) [pa,g],l):=by
 subst h1;subst h2;subst h3;rfl
theorem cell_e1 (h1:a.pre.getD e []=pa) (h2:b.pre.getD f []=pb) (h3:b.post.getD f []=qb) {c:Int} (h:aftE a e pb=.error c):cellE a b (e,f)=.error c:=by
 rw[cellE_eq h1 h2 h3,h]
theorem cell_e2 (h1:a.pre.getD e []=pa) (h2:b.pre.getD f []=pb) (h3:b.post.getD f []=qb) (h:aftE a e pb=.ok g) (hp:(buildL (n0 5) [pa,g]).isEmpty=true):cellE a b (e,f)=.error 8:=by
 rw[cellE_eq h1 h2 h3,h]
 show (bif (buildL (n0 5) [pa,g]).isEmpty then _ else _)=_
 rw[hp];rfl
theorem cell_e3 (h1:a.pre.getD e []=pa) (h2:b.pre.getD f []=pb) (h3:b.post.getD f []=qb) (h:aftE a e pb=.ok g) (hp:(buildL (n0 5) [pa,g]).isEmpty=false) {c:Int} (hq:asgE a e qb=.error c):cellE a b (e,f)=.error c:=by
 rw[cellE_eq h1 h2 h3,h]
 show (bif (buildL (n0 5) [pa,g]).isEmpty then _ else _)=_
 rw[hp,hq];rfl
theorem cell_ok (h1:a.pre.getD e []=pa) (h2:b.pre.getD f []=pb) (h3:b.post.getD f []=qb) (h:aftE a e pb=.ok g) (hp:(buildL (n0 5) [pa,g]).isEmpty=false) {l:List Asg} (hq:asgE a e qb=.ok l):cellE a b (e,f)=.ok (buildL (n0 5) [pa,g],l):=by
 rw[cellE_eq h1 h2 h3,h]
 show (bif (buildL (n0 5) [pa,g]).isEmpty then _ else _)=_
 rw[hp,hq];rfl
end
theorem cp_check (a:Act) (hS:SmX a):PureFn Tryz.prog 51 [a.pv] (.int .i64 (aloneI a)):=by
 have hC:=ac_Check a ((a.rel.map rowPV).length:Int) 8 hS.fit hS.rel hS.post
 have hCe:actI a ((a.rel.map rowPV).length:Int) 8=aloneI a:=by rw[List.length_map];rfl
 rw[hCe] at hC
 refine PureFn.intro mixed (fn:=Tryz.f51) rfl rfl rfl fun M w0 => ?_
 (try conv=>whnf);repeat' (first|(refine PureFn.dy hC rfl ?_;try conv=>whnf)|fail)
 exact .refl _
theorem cp_compact (l:List Asg) (hl:l.length≤1000):PureFn Tryz.prog 85 [postPV l] (postPV (compA l)):=by
 refine PureFn.introC [7] mixed (fn:=Tryz.f85) rfl rfl rfl fun M w0 => ?_
 try conv=>whnf
 refine⟨Unit,fun _=>[(3,.pv (.sl ((compA (l.take l.length)).map Asg.pv)))],fun _=>0,fun _=>[],?_,?_⟩
 ·refine⟨{ i:Nat // i≤l.length },fun i=>[(3,.buf 0 ((compA (l.take i.1)).map Asg.pv).length),(6,.pv (.sl (l.map Asg.pv))),(7,.pv (i64 (l.map Asg.pv).length)),(8,.pv (i64 i.1))],fun _=>1,fun i=>[(0,.arr 2 ((compA (l.take i.1)).map Asg.pv))],fun i=>l.length-i.1,⟨⟨0,Nat.zero_le _⟩,(by refine Wk.of ?_ ?_ rfl rfl rfl<;>repeat' (first|exact trivial|exact WkD.same _|exact WkD.new' rfl rfl rfl|exact WkO.new _ _ rfl|exact rfl|refine⟨?_,?_⟩|fail))⟩,?_⟩
  rintro⟨i,hi⟩
  (try conv=>whnf);repeat' (first|(apply And.intro<;>try conv=>whnf)|(intro h;try conv=>whnf)|(apply infoT;rfl)|fail)
  ·have hi':i<l.length:=by simpa using lt_dec h
   obtain⟨x,hx⟩:∃ x,l[i]? = some x:=⟨_,List.getElem?_eq_getElem hi'⟩
   have hvsl:((compA (l.take i)).map Asg.pv).length≤1000:=by simp[compA];omega
   have er:(compA (l.take i)).map Asg.pv++[.agg [.int .i64 x.fact,fpv (comp x.to)]]=(compA (l.take (i+1))).map Asg.pv:=by
    rw[compA,compA,List.take_add_one,hx,List.map_append,List.map_append];rfl
   refine⟨_,_,rfl,idx_map hx,rfl,?_⟩
   try conv=>whnf
   refine⟨Plan.lin 0 10,[],by kernel_rfl,?_⟩
   (try conv=>whnf);repeat' (first|(apply And.intro<;>try conv=>whnf)|(apply cellsI;rfl)|(apply szI;rfl)|(refine⟨_,(by (conv=>whnf);exact fm_Compact _),rfl,?_⟩;try conv=>whnf)|fail)
   ·exact app_big (n:=1000) hvsl (by decide)
   ·refine⟨⟨i+1,hi'⟩,by show l.length-(i+1)<l.length-i;omega,?_⟩
    (refine Wk.of ?_ ?_ rfl rfl rfl<;>repeat' (first|exact trivial|exact WkD.same _|exact WkD.eq (congrArg (fun z:List PV=>DV.buf _ z.length) er)|exact WkO.same _ _ (congrArg (fun z=>some (DObj.arr _ z)) er)|refine WkD.int ?_|refine⟨?_,?_⟩|(refine wrapA ?_ ?_ ?_;(focus simp;done);(focus (try dsimp only);omega);(focus (try dsimp only);omega))|fail))
  ·have hi':i=l.length:=by have:=ge_dec (m:=(l.map Asg.pv).length) h (by simpa using hi);simpa using this
   subst hi'
   exact⟨(),(by refine Wk.of ?_ ?_ rfl rfl rfl<;>repeat' (first|exact trivial|exact WkD.fz _ _ _ rfl (Or.inl ⟨_,rfl⟩) rfl|refine⟨?_,?_⟩|fail))⟩
 rintro _
 try conv=>whnf
 rw[List.take_length];exact .refl _
theorem cp_after (a:Act) (e:Nat) (f:List Nd) (hS:SmX a):PanFn Tryz.prog 70 [a.pv,i64 e,fpv f] (toE fpv (aftE a e f)):=by
 have hA:=red_After a e f hS
 obtain⟨R,hR⟩:∃ R,R=aftE a e f:=⟨_,rfl⟩
 rw[← hR]
 rw[aftE] at hR
 generalize aftI a e f=X at hA hR
 obtain⟨g,c⟩:=X
 refine PanFn.introC [] mixed (fn:=Tryz.f70) rfl rfl rfl fun M w => ?_
 (try conv=>whnf);repeat' (first|(apply And.intro<;>try conv=>whnf)|(intro h;try conv=>whnf)|(refine PureFn.dy hA rfl ?_;try conv=>whnf)|fail)
 ·rw[hR]
  show toE fpv (bif c != 0 then Except.error c else Except.ok g)=_
  rw[show (c != 0)=true from h];rfl
 ·rw[hR]
  refine⟨fpv g,?_,.refl _⟩
  show toE fpv (bif c != 0 then Except.error c else Except.ok g)=_
  rw[show (c != 0)=false from h];rfl
set_option maxHeartbeats 8000000
def cloPlan:Plan:=.one 0 (.one 1 (.two 2 (.one 3 (.one 4 (.one 5 .done))) 4 (.one 2 (.one 3 (.one 5 .done)))))
def cellsZ:List DV:=[.pv .nil,.pv .nil,.pv .nil]
theorem cp_Compose (a b:Act) (hSa:SmX a) (hSb:SmX b) (hAs:aloneI a=0→aloneI b=0→∀ e f,e<a.pre.length→f<b.pre.length→PanFn Tryz.prog 71 [a.pv,i64 e,postPV (b.post.getD f [])] (toE postPV (asgE a e (b.post.getD f [])))) :
  PureFn Tryz.prog 23 [a.pv,b.pv] (pairA (composeI a b)):=by
 have hCa:=cp_check a hSa
 have hCb:=cp_check b hSb
 have e1:((a.pre.map fpv).length:Int)=(a.pre.length:Int):=by simp
 have e2:((b.pre.map fpv).length:Int)=(b.pre.length:Int):=by simp
 have e3:((a.rel.map rowPV).length:Int)=(a.rel.length:Int):=by simp
 have e4:((b.rel.map rowPV).length:Int)=(b.rel.length:Int):=by simp
 obtain⟨R,hR⟩:∃ R,R=composeI a b:=⟨_,rfl⟩
 rw[← hR]
 rw[composeI] at hR
 refine PureFn.ofDC rfl fun M w => ?_
 refine DC.introD [5,8,10,13,20,25,42,45] 6 mixed (fn:=Tryz.f23) (g:=69) (gn:=Tryz.f69) rfl rfl rfl rfl rfl rfl (by decide) (by decide) (by decide) (by decide) rfl rfl rfl rfl rfl rfl rfl rfl rfl rfl rfl rfl rfl rfl rfl (by decide) (by decide) rfl ?_
 try conv=>whnf
 refine⟨4,.ref 2 0,.ref 3 0,rfl,rfl,rfl,?_⟩
 try conv=>whnf
 refine⟨{ _x:Unit // aloneI a=0 },fun _=>[(2,.ref 0 0),(3,.ref 1 0),(4,.ref 2 0),(5,.ref 3 0)],fun _=>4,fun _=>[(0,.var (cellsA a)),(1,.var (cellsA b)),(2,.var cellsZ),(3,.var [.pv (.int .i64 0)])],?_,?_⟩
 ·(try conv=>whnf);repeat' (first|(apply And.intro<;>try conv=>whnf)|(intro h;first|with_reducible exact ft0 h|try conv=>whnf)|(refine PureFn.dy hCa rfl ?_;try conv=>whnf)|fail)
  ·rename_i h1
   rw[hR,show (aloneI a != 0)=true from h1];exact le_noAct _
  ·exact⟨⟨(),by simpa using h⟩,(by exact Wk.sm rfl rfl rfl rfl rfl)⟩
 rintro⟨_,ha0⟩
 have g1:(aloneI a != 0)=false:=by simpa using ha0
 refine⟨{ _x:Unit // aloneI b=0 },fun _=>[(2,.ref 0 0),(3,.ref 1 0),(4,.ref 2 0),(5,.ref 3 0)],fun _=>4,fun _=>[(0,.var (cellsA a)),(1,.var (cellsA b)),(2,.var cellsZ),(3,.var [.pv (.int .i64 0)])],?_,?_⟩
 ·(try conv=>whnf);repeat' (first|(apply And.intro<;>try conv=>whnf)|(intro h;first|with_reducible exact ft0 h|try conv=>whnf)|(refine PureFn.dy hCb rfl ?_;try conv=>whnf)|fail)
  ·rename_i h1
   rw[hR,g1,show (aloneI b != 0)=true from h1];exact le_noAct _
  ·exact⟨⟨(),by simpa using h⟩,(by exact Wk.sm rfl rfl rfl rfl rfl)⟩
 rintro⟨_,hb0⟩
 have g2:(aloneI b != 0)=false:=by simpa using hb0
 refine⟨{ _x:Unit // a.rel.length=b.rel.length },fun _=>[(2,.ref 0 0),(3,.ref 1 0),(4,.ref 2 0),(5,.ref 3 0)],fun _=>4,fun _=>[(0,.var (cellsA a)),(1,.var (cellsA b)),(2,.var cellsZ),(3,.var [.pv (.int .i64 0)])],?_,?_⟩
 ·(try conv=>whnf);repeat' (first|(apply And.intro<;>try conv=>whnf)|(intro h;first|with_reducible exact ft0 h|try conv=>whnf)|fail)
  ·rename_i h1
   rw[hR,g1,g2,show ((a.rel.length:Int) != (b.rel.length:Int))=true by rw[← e3,← e4];exact h1];exact le_noAct _
  ·exact⟨⟨(),by
           rw[e3,e4] at h;have:(a.rel.length:Int)=(b.rel.length:Int):=by simpa using h
           omega⟩,(by exact Wk.sm rfl rfl rfl rfl rfl)⟩
 rintro⟨_,hrl⟩
 have g3:((a.rel.length:Int) != (b.rel.length:Int))=false:=by simp[hrl]
 have hOa:=actI_ok ha0
 have hOb:=actI_ok hb0
 have n8:=hOa.n8
 have m8:=hOb.n8
 have n1:=hOa.n1
 have m1:=hOb.n1
 have hwr:IntKind.wrap .i64 (((a.pre.map fpv).length:Int)*((b.pre.map fpv).length:Int))=((a.pre.length*b.pre.length:Nat):Int):=by
  have:=Nat.mul_le_mul n8 m8
  rw[e1,e2,Go.Dv.wrap_small (by omega) (by omega)];simp
 refine⟨{ _x:Unit // a.pre.length*b.pre.length≤8 },fun _=>[(8,.pv (i64 (b.pre.map fpv).length)),(2,.ref 0 0),(3,.ref 1 0),(4,.ref 2 0),(5,.ref 3 0)],fun _=>4,fun _=>[(0,.var (cellsA a)),(1,.var (cellsA b)),(2,.var cellsZ),(3,.var [.pv (.int .i64 0)])],?_,?_⟩
 ·(try conv=>whnf);repeat' (first|(apply And.intro<;>try conv=>whnf)|(intro h;first|with_reducible exact ft0 h|try conv=>whnf)|fail)
  ·rename_i h1
   rw[hR,g1,g2,g3,show decide ((a.pre.length:Int)*(b.pre.length:Int)>8)=true by rw[hwr] at h1;simpa using h1];exact le_noAct _
  ·exact⟨⟨(),by rw[hwr] at h;have:=of_decide_eq_false h;omega⟩,(by exact Wk.sm rfl rfl rfl rfl rfl)⟩
 rintro⟨_,hnm⟩
 have g4:decide ((a.pre.length:Int)*(b.pre.length:Int)>8)=false:=by
  refine decide_eq_false ?_
  have:((a.pre.length*b.pre.length:Nat):Int)=(a.pre.length:Int)*(b.pre.length:Int):=by simp
  omega
 rw[g1,g2,g3,g4] at hR
 simp only[cond_false] at hR
 have hcl:(prs a.pre.length b.pre.length).length=a.pre.length*b.pre.length:=prs_len _ _
 try conv=>whnf
 refine⟨{ l:List (List Nd×List Asg) // runE (cellE a b) (prs a.pre.length b.pre.length)=.ok l },fun _=>[(8,.pv (i64 (b.pre.map fpv).length)),(2,.ref 0 0),(3,.ref 1 0),(4,.ref 2 0),(5,.ref 3 0)],fun _=>4,fun l=>[(0,.var (cellsA a)),(1,.var (cellsA b)),(2,.var [.pv (.sl ((l.1.map (·.1)).map fpv)),.pv (.sl ((l.1.map (·.2)).map postPV)),.pv .nil]),(3,.var [.pv (.int .i64 0)])],?_,?_⟩
 ·refine⟨{ x:Nat×List (List Nd×List Asg) // x.1≤a.pre.length∧runE (cellE a b) ((prs a.pre.length b.pre.length).take (x.1*b.pre.length))=.ok x.2 },fun x=>[(8,.pv (i64 (b.pre.map fpv).length)),(51,.pv (i64 (a.pre.map fpv).length)),(52,.pv (i64 x.1.1)),(2,.ref 0 0),(3,.ref 1 0),(4,.ref 2 0),(5,.ref 3 0)],fun _=>6,fun x=>[(0,.var (cellsA a)),(1,.var (cellsA b)),(2,.var [.buf 4 ((x.1.2.map (·.1)).map fpv).length,.buf 5 ((x.1.2.map (·.2)).map postPV).length,.pv .nil]),(3,.var [.pv (.int .i64 0)]),(4,.arr 1 ((x.1.2.map (·.1)).map fpv)),(5,.arr 1 ((x.1.2.map (·.2)).map postPV))],fun x=>a.pre.length-x.1.1,⟨⟨(0,[]),Nat.zero_le _,by rw[Nat.zero_mul];rfl⟩,(by refine Wk.of ?_ ?_ rfl rfl rfl<;>repeat' (first|exact trivial|exact WkD.same _|exact WkO.same _ _ rfl|exact WkD.new' rfl rfl rfl|exact WkO.new _ _ rfl|refine WkO.vars rfl ?_|exact rfl|refine⟨?_,?_⟩|fail))⟩,?_⟩
  rintro⟨⟨e,acc⟩,he,hacc⟩
  (try conv=>whnf);repeat' (first|(apply And.intro<;>try conv=>whnf)|(intro h;try conv=>whnf)|fail)
  ·have he':e<a.pre.length:=by simpa using lt_dec h
   refine⟨{ x:Nat×List (List Nd×List Asg) // x.1≤b.pre.length∧runE (cellE a b) ((prs a.pre.length b.pre.length).take (e*b.pre.length+x.1))=.ok x.2 },fun x=>[(8,.pv (i64 (b.pre.map fpv).length)),(51,.pv (i64 (a.pre.map fpv).length)),(52,.pv (i64 e)),(9,.pv (i64 e)),(57,.pv (i64 (b.pre.map fpv).length)),(58,.pv (i64 x.1.1)),(2,.ref 0 0),(3,.ref 1 0),(4,.ref 2 0),(5,.ref 3 0)],fun _=>6,fun x=>[(0,.var (cellsA a)),(1,.var (cellsA b)),(2,.var [.buf 4 ((x.1.2.map (·.1)).map fpv).length,.buf 5 ((x.1.2.map (·.2)).map postPV).length,.pv .nil]),(3,.var [.pv (.int .i64 0)]),(4,.arr 1 ((x.1.2.map (·.1)).map fpv)),(5,.arr 1 ((x.1.2.map (·.2)).map postPV))],fun x=>b.pre.length-x.1.1,⟨⟨(0,acc),Nat.zero_le _,hacc⟩,(by exact Wk.sm rfl rfl rfl rfl rfl)⟩,?_⟩
   rintro⟨⟨f,acc⟩,hf,hacc⟩
   (try conv=>whnf);repeat' (first|(apply And.intro<;>try conv=>whnf)|(intro h;try conv=>whnf)|fail)
   ·have hf':f<b.pre.length:=by simpa using lt_dec h
    have hcq:=prs_get he' hf'
    obtain⟨pa,hpa⟩:∃ y,a.pre[e]? = some y:=⟨_,List.getElem?_eq_getElem he'⟩
    obtain⟨pb,hpb⟩:∃ y,b.pre[f]? = some y:=⟨_,List.getElem?_eq_getElem hf'⟩
    have hpad:a.pre.getD e []=pa:=by rw[List.getD_eq_getElem?_getD,hpa];rfl
    have hpbd:b.pre.getD f []=pb:=by rw[List.getD_eq_getElem?_getD,hpb];rfl
    obtain⟨qb,hqb⟩:∃ y,b.post[f]? = some y:=⟨_,List.getElem?_eq_getElem (by rw[hOb.post];exact hf')⟩
    have hqbd:b.post.getD f []=qb:=by rw[List.getD_eq_getElem?_getD,hqb];rfl
    have hAf:=cp_after a e pb hSa
    have hAp:=fm_And pa
    have hixa:=idx_map (g:=fpv) hpa
    have hixb:=idx_map (g:=fpv) hpb
    have hcE:∀ c,cellE a b (e,f)=.error c→PLe (.tup [.agg [.nil,.nil,.nil],.int .i64 c]) (pairA R):=fun c hc=>by
     rw[hR,runE_bad hacc hcq hc];exact le_noAct c
    refine⟨{ x:List Nd×List Nd // aftE a e pb=.ok x.1∧x.2=buildL (n0 5) [pa,x.1] },fun x=>[(8,.pv (i64 (b.pre.map fpv).length)),(51,.pv (i64 (a.pre.map fpv).length)),(52,.pv (i64 e)),(9,.pv (i64 e)),(57,.pv (i64 (b.pre.map fpv).length)),(58,.pv (i64 f)),(10,.pv (i64 f)),(11,.pv (fpv x.1.2)),(2,.ref 0 0),(3,.ref 1 0),(4,.ref 2 0),(5,.ref 3 0)],fun _=>6,fun _=>[(0,.var (cellsA a)),(1,.var (cellsA b)),(2,.var [.buf 4 ((acc.map (·.1)).map fpv).length,.buf 5 ((acc.map (·.2)).map postPV).length,.pv .nil]),(3,.var [.pv (.int .i64 0)]),(4,.arr 1 ((acc.map (·.1)).map fpv)),(5,.arr 1 ((acc.map (·.2)).map postPV))],?_,?_⟩
    ·cases hq:aftE a e pb with
     |error c =>
      rw[hq] at hAf
      try conv=>whnf
      refine⟨Plan.lin 0 15,[12,1012,2000,2001,2003,2004],by kernel_rfl,?_⟩
      (try conv=>whnf);repeat' (first|(apply And.intro<;>try conv=>whnf)|(apply infoT;rfl)|(refine⟨_,_,rfl,idx_map (by with_reducible assumption),rfl,?_⟩;try conv=>whnf)|fail)
      refine PanFn.dcq hAf ?_
      (try conv=>whnf);repeat' (first|(apply And.intro<;>try conv=>whnf)|(intro h;first|with_reducible exact tf0 h|try conv=>whnf)|apply True.intro|fail)
      iterate 3 exact .refl _
      refine⟨cloPlan,[],by kernel_rfl,?_⟩
      (try conv=>whnf);repeat' (first|(apply And.intro<;>try conv=>whnf)|fail)
      all_goals exact hcE c (cell_e1 hpad hpbd hqbd hq)
     |ok g =>
      rw[hq] at hAf
      try conv=>whnf
      refine⟨Plan.lin 0 15,[12,1012,2000,2001,2003,2004],by kernel_rfl,?_⟩
      (try conv=>whnf);repeat' (first|(apply And.intro<;>try conv=>whnf)|(apply infoT;rfl)|(refine⟨_,_,rfl,idx_map (by with_reducible assumption),rfl,?_⟩;try conv=>whnf)|fail)
      refine PanFn.dcq hAf ?_
      (try conv=>whnf);repeat' (first|(apply And.intro<;>try conv=>whnf)|(intro h;try conv=>whnf)|apply True.intro|with_reducible assumption|(refine⟨_,(by (conv=>whnf);exact hAp _),rfl,?_⟩;try conv=>whnf)|fail)
      iterate 3 exact .refl _
      exact⟨⟨(g,buildL (n0 5) [pa,g]),by first|rfl|exact hq,rfl⟩,(by exact Wk.sm rfl rfl rfl rfl rfl)⟩
    rintro⟨⟨g,p⟩,hg,hp⟩
    have hg:aftE a e pb=.ok g:=hg
    have hp:p=buildL (n0 5) [pa,g]:=hp
    have hAss:=hAs ha0 hb0 e f he' hf'
    have hixq:=idx_map (g:=postPV) hqb
    rw[hqbd] at hAss
    have hal:acc.length≤8:=by
     rw[runE_len hacc,List.length_take,hcl];omega
    have hs1:((acc.map (·.1)).map fpv).length≤1000:=by simp;omega
    have hs2:((acc.map (·.2)).map postPV).length≤1000:=by simp;omega
    (try conv=>whnf);repeat' (first|(apply And.intro<;>try conv=>whnf)|(intro h;first|with_reducible exact tf0 h|try conv=>whnf)|fail)
    ·rename_i h1
     have hem:p.isEmpty=true:=by simpa using h1
     refine⟨cloPlan,[],by kernel_rfl,?_⟩
     (try conv=>whnf);repeat' (first|(apply And.intro<;>try conv=>whnf)|fail)
     all_goals exact hcE 8 (cell_e2 hpad hpbd hqbd hg (by rw[← hp];exact hem))
    have hpe:p.isEmpty=false:=by simpa using h
    cases hq2:asgE a e qb with
    |error c =>
     rw[hq2] at hAss
     refine⟨Plan.ofL [0,1,2,3,5,6,7,8,9,10,11,12,13,4,17,14,15,16,18,19,20],[14,18,20,1014,1004,1016,2017,2005,2006,2007,2009,2010,2012,2013],by kernel_rfl,?_⟩
     (try conv=>whnf);repeat' (first|(apply And.intro<;>try conv=>whnf)|(intro h;try conv=>whnf)|(apply infoT;rfl)|(apply cellsI;rfl)|(apply szI;rfl)|(refine⟨_,_,rfl,idx_map (by with_reducible assumption),rfl,?_⟩;try conv=>whnf)|fail)
     ·exact app_big (n:=1000) hs1 (by decide)
     ·exact ExtV.put (k:=4) (fun cs h=>by cases h) _ _ h
     refine PanFn.dcq hAss ?_
     (try conv=>whnf);repeat' (first|(apply And.intro<;>try conv=>whnf)|(intro h;first|with_reducible exact tf0 h|try conv=>whnf)|apply True.intro|fail)
     iterate 3 exact .refl _
     refine⟨cloPlan,[],by kernel_rfl,?_⟩
     (try conv=>whnf);repeat' (first|(apply And.intro<;>try conv=>whnf)|fail)
     all_goals exact hcE c (cell_e3 hpad hpbd hqbd hg (by rw[← hp];exact hpe) hq2)
    |ok l =>
     rw[hq2] at hAss
     refine⟨Plan.ofL [0,1,2,3,5,6,7,8,9,10,11,12,13,4,17,14,15,16,18,19,20],[14,18,20,1014,1004,1016,2017,2005,2006,2007,2009,2010,2012,2013],by kernel_rfl,?_⟩
     (try conv=>whnf);repeat' (first|(apply And.intro<;>try conv=>whnf)|(intro h;try conv=>whnf)|(apply infoT;rfl)|(apply cellsI;rfl)|(apply szI;rfl)|(refine⟨_,_,rfl,idx_map (by with_reducible assumption),rfl,?_⟩;try conv=>whnf)|fail)
     ·exact app_big (n:=1000) hs1 (by decide)
     ·exact ExtV.put (k:=4) (fun cs h=>by cases h) _ _ h
     refine PanFn.dcq hAss ?_
     (try conv=>whnf);repeat' (first|(apply And.intro<;>try conv=>whnf)|(intro h;try conv=>whnf)|apply True.intro|(apply cellsI;rfl)|(apply szI;rfl)|with_reducible assumption|fail)
     iterate 3 exact .refl _
     ·exact app_big (n:=1000) hs2 (by decide)
     ·exact ExtV.put (k:=5) (fun cs h=>by cases h) _ _ h
     have hnx:=runE_take hacc hcq (cell_ok hpad hpbd hqbd hg (by rw[← hp];exact hpe) hq2)
     rw[← hp] at hnx
     have ep:(acc.map (·.1)).map fpv++[.sl (p.map Nd.pv)]=((acc++[(p,l)]).map (·.1)).map fpv:=by rw[List.map_append,List.map_append];rfl
     have eq:(acc.map (·.2)).map postPV++[.sl (l.map Asg.pv)]=((acc++[(p,l)]).map (·.2)).map postPV:=by rw[List.map_append,List.map_append];rfl
     refine⟨⟨(f+1,acc++[(p,l)]),hf',hnx⟩,by show b.pre.length-(f+1)<b.pre.length-f;omega,?_⟩
     (refine Wk.of ?_ ?_ rfl rfl rfl<;>repeat' (first|exact trivial|exact WkD.same _|exact WkO.same _ _ rfl|exact WkD.eq (congrArg (fun z:List PV=>DV.buf _ z.length) ep)|exact WkO.same _ _ (congrArg (fun z=>some (DObj.arr _ z)) ep)|exact WkD.eq (congrArg (fun z:List PV=>DV.buf _ z.length) eq)|exact WkO.same _ _ (congrArg (fun z=>some (DObj.arr _ z)) eq)|refine WkD.int ?_|refine WkO.vars rfl ?_|refine⟨?_,?_⟩|(refine wrapA ?_ ?_ ?_;(focus simp;done);(focus (try dsimp only);omega);(focus (try dsimp only);omega))|fail))
   ·have hf':f=b.pre.length:=by have:=ge_dec (m:=(b.pre.map fpv).length) h (by simpa using hf);simpa using this
    subst hf'
    exact⟨⟨(e+1,acc),he',by rw[Nat.succ_mul];exact hacc⟩,by show a.pre.length-(e+1)<a.pre.length-e;omega,(by refine Wk.of ?_ ?_ rfl rfl rfl<;>repeat' (first|exact trivial|exact WkD.same _|exact WkO.same _ _ rfl|refine WkD.int ?_|refine⟨?_,?_⟩|(refine wrapA ?_ ?_ ?_;(focus simp;done);(focus (try dsimp only);omega);(focus (try dsimp only);omega))|fail))⟩
  ·have he':e=a.pre.length:=by have:=ge_dec (m:=(a.pre.map fpv).length) h (by simpa using he);simpa using this
   subst he'
   rw[List.take_of_length_le (by rw[hcl];exact Nat.le_refl _)] at hacc
   exact⟨⟨acc,hacc⟩,(by refine Wk.of ?_ ?_ rfl rfl rfl<;>repeat' (first|exact trivial|exact WkD.same _|exact WkO.same _ _ rfl|exact WkD.fz _ _ _ rfl (Or.inl ⟨_,rfl⟩) rfl|refine WkO.vars rfl ?_|refine⟨?_,?_⟩|fail))⟩
 rintro⟨l,hl⟩
 rw[hl] at hR
 have hll:l.length≤8:=by rw[runE_len hl,hcl];exact hnm
 have hrla:(relsC a b).length=a.rel.length:=by simp[relsC]
 try conv=>whnf
 refine⟨{ i:Nat // i≤a.rel.length },fun i=>[(8,.pv (i64 (b.pre.map fpv).length)),(103,.pv (i64 (a.rel.map rowPV).length)),(104,.pv (i64 i.1)),(2,.ref 0 0),(3,.ref 1 0),(4,.ref 2 0),(5,.ref 3 0)],fun _=>5,fun i=>[(0,.var (cellsA a)),(1,.var (cellsA b)),(2,.var [.pv (.sl ((l.map (·.1)).map fpv)),.pv (.sl ((l.map (·.2)).map postPV)),.buf 4 (((relsC a b).take i.1).map rowPV).length]),(3,.var [.pv (.int .i64 0)]),(4,.arr 1 (((relsC a b).take i.1).map rowPV))],fun i=>a.rel.length-i.1,⟨⟨0,Nat.zero_le _⟩,(by refine Wk.of ?_ ?_ rfl rfl rfl<;>repeat' (first|exact trivial|exact WkD.same _|exact WkO.same _ _ rfl|exact WkD.new' rfl rfl rfl|exact WkO.new _ _ rfl|refine WkO.vars rfl ?_|exact rfl|refine⟨?_,?_⟩|fail))⟩,?_⟩
 rintro⟨i,hi⟩
 (try conv=>whnf);repeat' (first|(apply And.intro<;>try conv=>whnf)|(intro h;first|with_reducible exact ft0 h|try conv=>whnf)|(apply bleI;rfl)|fail)
 ·have hi':i<a.rel.length:=by simpa using lt_dec h
  obtain⟨ra,hra⟩:∃ y,a.rel[i]? = some y:=⟨_,List.getElem?_eq_getElem hi'⟩
  obtain⟨rb,hrb⟩:∃ y,b.rel[i]? = some y:=⟨_,List.getElem?_eq_getElem (by rw[← hrl];exact hi')⟩
  have hra1:=List.mem_iff_getElem?.2 ⟨_,hra⟩
  have hrb1:=List.mem_iff_getElem?.2 ⟨_,hrb⟩
  have hral:=hOa.rows ra hra1
  have hrbl:=hOb.rows rb hrb1
  have hrab:=hOa.bits ra hra1
  have hrbb:=hOb.bits rb hrb1
  obtain⟨row,hrow⟩:∃ row,row=rowC ra rb a.pre.length b.pre.length:=⟨_,rfl⟩
  have hrwl:row.length=a.pre.length*b.pre.length:=by rw[hrow,rowC,List.length_map,hcl]
  have hri:(relsC a b)[i]? = some row:=by
   rw[relsC,List.getElem?_map,List.getElem?_range hi',Option.map_some,List.getD_eq_getElem?_getD,List.getD_eq_getElem?_getD,hra,hrb,hrow];rfl
  have er:((relsC a b).take i).map rowPV++[rowPV row]=((relsC a b).take (i+1)).map rowPV:=(take_map (f:=rowPV) hri).symm
  have hixa:=idx_map (g:=rowPV) hra
  have hixb:=idx_map (g:=rowPV) hrb
  have hsz:(((relsC a b).take i).map rowPV).length≤1000:=by have:=hOa.agn;simp;omega
  refine⟨Unit,fun _=>[(8,.pv (i64 (b.pre.map fpv).length)),(103,.pv (i64 (a.rel.map rowPV).length)),(104,.pv (i64 i)),(12,.pv (i64 i)),(13,.pv (.sl ((row.take row.length).map u64))),(2,.ref 0 0),(3,.ref 1 0),(4,.ref 2 0),(5,.ref 3 0)],fun _=>5,fun _=>[(0,.var (cellsA a)),(1,.var (cellsA b)),(2,.var [.pv (.sl ((l.map (·.1)).map fpv)),.pv (.sl ((l.map (·.2)).map postPV)),.buf 4 (((relsC a b).take i).map rowPV).length]),(3,.var [.pv (.int .i64 0)]),(4,.arr 1 (((relsC a b).take i).map rowPV))],?_,?_⟩
  ·try conv=>whnf
   refine⟨{ e:Nat // e≤a.pre.length },fun e=>[(8,.pv (i64 (b.pre.map fpv).length)),(103,.pv (i64 (a.rel.map rowPV).length)),(104,.pv (i64 i)),(12,.pv (i64 i)),(13,.buf 5 ((row.take (b.pre.length*e.1)).map u64).length),(109,.pv (i64 (a.pre.map fpv).length)),(110,.pv (i64 e.1)),(2,.ref 0 0),(3,.ref 1 0),(4,.ref 2 0),(5,.ref 3 0)],fun _=>6,fun e=>[(0,.var (cellsA a)),(1,.var (cellsA b)),(2,.var [.pv (.sl ((l.map (·.1)).map fpv)),.pv (.sl ((l.map (·.2)).map postPV)),.buf 4 (((relsC a b).take i).map rowPV).length]),(3,.var [.pv (.int .i64 0)]),(4,.arr 1 (((relsC a b).take i).map rowPV)),(5,.arr 1 ((row.take (b.pre.length*e.1)).map u64))],fun e=>a.pre.length-e.1,⟨⟨0,Nat.zero_le _⟩,(by refine Wk.of ?_ ?_ rfl rfl rfl<;>repeat' (first|exact trivial|exact WkD.same _|exact WkO.same _ _ rfl|exact WkD.new' rfl rfl rfl|exact WkO.new _ _ rfl|exact rfl|refine⟨?_,?_⟩|fail))⟩,?_⟩
   rintro⟨e,he⟩
   (try conv=>whnf);repeat' (first|(apply And.intro<;>try conv=>whnf)|(intro h;try conv=>whnf)|fail)
   ·have he':e<a.pre.length:=by simpa using lt_dec h
    obtain⟨x,hx⟩:∃ y,ra[e]? = some y:=⟨_,List.getElem?_eq_getElem (by rw[hral];exact he')⟩
    have hxb:x<2^64:=Nat.lt_of_lt_of_le (hrab x (List.mem_iff_getElem?.2 ⟨_,hx⟩)) (Nat.pow_le_pow_right (by decide) (by omega))
    have hixx:=idx_map (g:=u64) hx
    refine⟨{ f:Nat // f≤b.pre.length },fun f=>[(8,.pv (i64 (b.pre.map fpv).length)),(103,.pv (i64 (a.rel.map rowPV).length)),(104,.pv (i64 i)),(12,.pv (i64 i)),(13,.buf 5 ((row.take (b.pre.length*e+f.1)).map u64).length),(109,.pv (i64 (a.pre.map fpv).length)),(110,.pv (i64 e)),(14,.pv (i64 e)),(115,.pv (i64 (b.pre.map fpv).length)),(116,.pv (i64 f.1)),(2,.ref 0 0),(3,.ref 1 0),(4,.ref 2 0),(5,.ref 3 0)],fun _=>6,fun f=>[(0,.var (cellsA a)),(1,.var (cellsA b)),(2,.var [.pv (.sl ((l.map (·.1)).map fpv)),.pv (.sl ((l.map (·.2)).map postPV)),.buf 4 (((relsC a b).take i).map rowPV).length]),(3,.var [.pv (.int .i64 0)]),(4,.arr 1 (((relsC a b).take i).map rowPV)),(5,.arr 1 ((row.take (b.pre.length*e+f.1)).map u64))],fun f=>b.pre.length-f.1,⟨⟨0,Nat.zero_le _⟩,(by exact Wk.sm rfl rfl rfl rfl rfl)⟩,?_⟩
    rintro⟨f,hf⟩
    (try conv=>whnf);repeat' (first|(apply And.intro<;>try conv=>whnf)|(intro h;try conv=>whnf)|fail)
    ·have hf':f<b.pre.length:=by simpa using lt_dec h
     obtain⟨y,hy⟩:∃ y,rb[f]? = some y:=⟨_,List.getElem?_eq_getElem (by rw[hrbl];exact hf')⟩
     have hyb:=hrbb y (List.mem_iff_getElem?.2 ⟨_,hy⟩)
     have hixy:=idx_map (g:=u64) hy
     have hrf:row[b.pre.length*e+f]? = some (joinN x y b.pre.length a.pre.length):=by
      rw[hrow,rowC,List.getElem?_map,Nat.mul_comm,prs_get he' hf',Option.map_some,List.getD_eq_getElem?_getD,List.getD_eq_getElem?_getD,hx,hy];rfl
     have erf:(row.take (b.pre.length*e+f)).map u64++[u64 (joinN x y b.pre.length a.pre.length)]=(row.take (b.pre.length*e+f+1)).map u64:=(take_map (f:=u64) hrf).symm
     have hsf:((row.take (b.pre.length*e+f)).map u64).length≤1000:=by simp;omega
     have hst:∀ g,g<a.pre.length→joinN x y b.pre.length g<2^64∧y*2^(g*b.pre.length)<2^64∧IntKind.wrap .i64 ((g:Int)*((b.pre.map fpv).length:Int))=((g*b.pre.length:Nat):Int)∧shlU y ((g*b.pre.length:Nat):Int)=((y*2^(g*b.pre.length):Nat):Int):=fun g hg=>by
      have h1:(g+1)*b.pre.length≤8:=Nat.le_trans (Nat.mul_le_mul_right _ hg) hnm
      have h2:(g+1)*b.pre.length=g*b.pre.length+b.pre.length:=Nat.succ_mul _ _
      have h3:joinN x y b.pre.length g<2^64:=Nat.lt_of_lt_of_le (joinN_lt hyb g) (Nat.pow_le_pow_right (by decide) (by omega))
      have h4:y*2^(g*b.pre.length)<2^64:=by
       refine Nat.lt_of_lt_of_le (Nat.mul_lt_mul_of_pos_right hyb (Nat.two_pow_pos _)) ?_
       rw[← Nat.pow_add]
       exact Nat.pow_le_pow_right (by decide) (by omega)
      refine⟨h3,h4,?_,shlU_mul (by omega) h4⟩
      have h5:((g:Int)*((b.pre.map fpv).length:Int))=((g*b.pre.length:Nat):Int):=by rw[e2];simp
      rw[h5,Go.Dv.wrap_small (by omega) (by omega)]
     refine⟨Unit,fun _=>[(8,.pv (i64 (b.pre.map fpv).length)),(103,.pv (i64 (a.rel.map rowPV).length)),(104,.pv (i64 i)),(12,.pv (i64 i)),(13,.buf 5 ((row.take (b.pre.length*e+f)).map u64).length),(109,.pv (i64 (a.pre.map fpv).length)),(110,.pv (i64 e)),(14,.pv (i64 e)),(115,.pv (i64 (b.pre.map fpv).length)),(116,.pv (i64 f)),(15,.pv (i64 f)),(16,.pv (u64 (joinN x y b.pre.length a.pre.length))),(2,.ref 0 0),(3,.ref 1 0),(4,.ref 2 0),(5,.ref 3 0)],fun _=>6,fun _=>[(0,.var (cellsA a)),(1,.var (cellsA b)),(2,.var [.pv (.sl ((l.map (·.1)).map fpv)),.pv (.sl ((l.map (·.2)).map postPV)),.buf 4 (((relsC a b).take i).map rowPV).length]),(3,.var [.pv (.int .i64 0)]),(4,.arr 1 (((relsC a b).take i).map rowPV)),(5,.arr 1 ((row.take (b.pre.length*e+f)).map u64))],?_,?_⟩
     ·try conv=>whnf
      refine⟨{ g:Nat // g≤a.pre.length },fun g=>[(8,.pv (i64 (b.pre.map fpv).length)),(103,.pv (i64 (a.rel.map rowPV).length)),(104,.pv (i64 i)),(12,.pv (i64 i)),(13,.buf 5 ((row.take (b.pre.length*e+f)).map u64).length),(109,.pv (i64 (a.pre.map fpv).length)),(110,.pv (i64 e)),(14,.pv (i64 e)),(115,.pv (i64 (b.pre.map fpv).length)),(116,.pv (i64 f)),(15,.pv (i64 f)),(16,.pv (u64 (joinN x y b.pre.length g.1))),(121,.pv (i64 (a.pre.map fpv).length)),(122,.pv (i64 g.1)),(2,.ref 0 0),(3,.ref 1 0),(4,.ref 2 0),(5,.ref 3 0)],fun _=>6,fun _=>[(0,.var (cellsA a)),(1,.var (cellsA b)),(2,.var [.pv (.sl ((l.map (·.1)).map fpv)),.pv (.sl ((l.map (·.2)).map postPV)),.buf 4 (((relsC a b).take i).map rowPV).length]),(3,.var [.pv (.int .i64 0)]),(4,.arr 1 (((relsC a b).take i).map rowPV)),(5,.arr 1 ((row.take (b.pre.length*e+f)).map u64))],fun g=>a.pre.length-g.1,⟨⟨0,Nat.zero_le _⟩,(by exact Wk.sm rfl rfl rfl rfl rfl)⟩,?_⟩
      rintro⟨g,hg⟩
      (try conv=>whnf);repeat' (first|(apply And.intro<;>try conv=>whnf)|(intro h;try conv=>whnf)|(apply infoT;rfl)|(refine⟨_,_,rfl,idx_map (by with_reducible assumption),rfl,?_⟩;try conv=>whnf)|fail)
      ·exact Int.natCast_nonneg g
      ·rename_i h1
       have hg':g<a.pre.length:=by simpa using lt_dec h1
       show (0:Int)≤IntKind.wrap .i64 ((g:Int)*((b.pre.map fpv).length:Int))
       rw[(hst g hg').2.2.1]
       exact Int.natCast_nonneg _
      ·rename_i h1
       have hg':g<a.pre.length:=by simpa using lt_dec h1
       obtain⟨q1,q2,q3,q4⟩:=hst g hg'
       have hb:x.testBit g=true:=(bit_one hxb (show g<64 by omega)).symm.trans h
       have hup:orU (joinN x y b.pre.length g:Nat) (shlU y (IntKind.wrap .i64 ((g:Int)*((b.pre.map fpv).length:Int))))=((joinN x y b.pre.length (g+1):Nat):Int):=by
        rw[q3,q4,orU_nat q1 q2,joinN,hb];rfl
       refine⟨⟨g+1,hg'⟩,by show a.pre.length-(g+1)<a.pre.length-g;omega,?_⟩
       (refine Wk.of ?_ ?_ rfl rfl rfl<;>repeat' (first|exact trivial|exact WkD.same _|exact WkO.same _ _ rfl|refine WkD.int ?_|refine⟨?_,?_⟩|(refine wrapA ?_ ?_ ?_;(focus simp;done);(focus (try dsimp only);omega);(focus (try dsimp only);omega))|fail))
       exact hup
      ·rename_i h1
       have hg':g<a.pre.length:=by simpa using lt_dec h1
       have hb:x.testBit g=false:=(bit_one hxb (show g<64 by omega)).symm.trans h
       have hup:joinN x y b.pre.length g=joinN x y b.pre.length (g+1):=by rw[joinN,hb];rfl
       refine⟨⟨g+1,hg'⟩,by show a.pre.length-(g+1)<a.pre.length-g;omega,?_⟩
       (refine Wk.of ?_ ?_ rfl rfl rfl<;>repeat' (first|exact trivial|exact WkD.same _|exact WkO.same _ _ rfl|refine WkD.int ?_|refine⟨?_,?_⟩|(refine wrapA ?_ ?_ ?_;(focus simp;done);(focus (try dsimp only);omega);(focus (try dsimp only);omega))|fail))
       exact congrArg (fun z:Nat=>(z:Int)) hup
      ·have hg':g=a.pre.length:=by have:=ge_dec (m:=(a.pre.map fpv).length) h (by simpa using hg);simpa using this
       subst hg'
       exact⟨(),(by exact Wk.sm rfl rfl rfl rfl rfl)⟩
     rintro _
     (try conv=>whnf);repeat' (first|(apply And.intro<;>try conv=>whnf)|(apply cellsI;rfl)|(apply szI;rfl)|fail)
     ·exact app_big (n:=1000) hsf (by decide)
     ·refine⟨⟨f+1,hf'⟩,by show b.pre.length-(f+1)<b.pre.length-f;omega,?_⟩
      (refine Wk.of ?_ ?_ rfl rfl rfl<;>repeat' (first|exact trivial|exact WkD.same _|exact WkO.same _ _ rfl|exact WkD.eq (congrArg (fun z:List PV=>DV.buf _ z.length) erf)|exact WkO.same _ _ (congrArg (fun z=>some (DObj.arr _ z)) erf)|refine WkD.int ?_|refine⟨?_,?_⟩|(refine wrapA ?_ ?_ ?_;(focus simp;done);(focus (try dsimp only);omega);(focus (try dsimp only);omega))|fail))
    ·have hf':f=b.pre.length:=by have:=ge_dec (m:=(b.pre.map fpv).length) h (by simpa using hf);simpa using this
     subst hf'
     exact⟨⟨e+1,he'⟩,by show a.pre.length-(e+1)<a.pre.length-e;omega,(by refine Wk.of ?_ ?_ rfl rfl rfl<;>repeat' (first|exact trivial|exact WkD.same _|exact WkO.same _ _ rfl|refine WkD.int ?_|refine⟨?_,?_⟩|(refine wrapA ?_ ?_ ?_;(focus simp;done);(focus (try dsimp only);omega);(focus (try dsimp only);omega))|fail))⟩
   ·have he':e=a.pre.length:=by have:=ge_dec (m:=(a.pre.map fpv).length) h (by simpa using he);simpa using this
    have hwh:row.take (b.pre.length*e)=row.take row.length:=by rw[hrwl,he',Nat.mul_comm]
    refine⟨(),?_⟩
    rw[← hwh]
    (refine Wk.of ?_ ?_ rfl rfl rfl<;>repeat' (first|exact trivial|exact WkD.same _|exact WkO.same _ _ rfl|exact WkD.fz _ _ _ rfl (Or.inl ⟨_,rfl⟩) rfl|refine⟨?_,?_⟩|fail))
  rintro _
  generalize hR9:row.take row.length=row9
  obtain rfl:row9=row:=by rw[← hR9,List.take_length]
  clear hR9
  (try conv=>whnf);repeat' (first|(apply And.intro<;>try conv=>whnf)|(apply cellsI;rfl)|(apply szI;rfl)|fail)
  ·exact app_big (n:=1000) hsz (by decide)
  have hi4:=hOa.agn
  refine⟨⟨i+1,hi'⟩,by show a.rel.length-(i+1)<a.rel.length-i;omega,?_⟩
  (refine Wk.of ?_ ?_ rfl rfl rfl<;>repeat' (first|exact trivial|exact WkD.same _|exact WkO.same _ _ rfl|exact WkD.eq (congrArg (fun z:List PV=>DV.buf _ z.length) er)|exact WkO.same _ _ (congrArg (fun z=>some (DObj.arr _ z)) er)|refine WkD.int ?_|refine WkO.vars rfl ?_|refine⟨?_,?_⟩|(refine wrapA ?_ ?_ ?_;(focus simp;done);(focus (try dsimp only);omega);(focus (try dsimp only);omega))|fail))
 ·rename_i h1
  have hi':i=(relsC a b).length:=by rw[hrla];have:=ge_dec (m:=(a.rel.map rowPV).length) h1 (by simpa using hi);simpa using this
  subst hi'
  rw[hR]
  show PLe (.tup [.agg [.sl ((l.map (·.1)).map fpv),.sl ((l.map (·.2)).map postPV),.sl (((relsC a b).take (relsC a b).length).map rowPV)],.int .i64 0]) (pairA (⟨l.map (·.1),l.map (·.2),relsC a b⟩,0))
  rw[List.take_length]
  exact .refl _
set_option maxHeartbeats 4000000
theorem stat_mono {A F:Nat} {f:List Nd} (hF:F≤8) (h:statI A F f=0):statI A 8 f=0:=by
 obtain⟨h1,h2⟩:=statM_iff.1 h
 refine (statM_iff (F:=8)).2 ⟨h1,fun x hx => ?_⟩
 have:=h2 x hx
 simp only[stM,Bool.and_eq_true,decide_eq_true_eq] at this ⊢
 exact⟨this.1,Nat.lt_of_lt_of_le this.2 (Nat.pow_le_pow_right (by decide) hF)⟩
theorem chgs_mono {A F:Nat} (hF:F≤8):∀ {l:List Asg} {last:Int},chgs A F l last=0→chgs A 8 l last=0
 | [],_,_=>rfl
 |x::r,last,h=>by
  rw[chgs] at h ⊢
  cases h1:decide (x.fact<0) with
  |true=>rw[h1] at h;cases h
  |false =>
   cases h2:decide (x.fact≥(F:Int)) with
   |true=>rw[h1,h2] at h;cases h
   |false =>
    rw[h1,h2] at h
    have q2:=of_decide_eq_false h2
    rw[decide_eq_false (show ¬ x.fact≥8 by omega)]
    cases h3:decide (x.fact≤last) with
    |true=>rw[h3] at h;cases h
    |false =>
     rw[h3] at h
     have h4:statI A F x.to=0:=by
      by_cases q:statI A F x.to=0
      ·exact q
      ·rw[show (statI A F x.to != 0)=true by simpa using q] at h;exact h
     rw[h4] at h
     rw[stat_mono hF h4]
     exact chgs_mono hF h
theorem act_alone {a:Act} {A F:Nat} (hF:F≤8) (h:actI a A F=0):aloneI a=0∧a.rel.length=A:=by
 have hO:=actI_ok h
 have hA:a.rel.length=A:=by have:=hO.ags;omega
 subst hA
 obtain⟨e1,e2⟩:=evs_all hO.ev
 refine⟨valid_of hO.agn hO.n1 hO.n8 hO.post hO.rows hO.bits (fun f hf=>stat_mono hF (e1 f hf)) fun l hl => ?_,rfl⟩
 obtain⟨e,he,rfl⟩:=List.mem_iff_getElem.1 hl
 have:=e2 e (by rw[← hO.post];exact he)
 rw[List.getD_eq_getElem?_getD,List.getElem?_eq_getElem he] at this
 exact chgs_mono hF this
def possP (m:Mo) (a:Act) (e:Nat):Nat:=(holdsI m (a.pre.getD e [])).1
def pairsE (p:Nat→Nat) (w:Nat):Nat→List (Nat×Nat)
 |0=>[]
 |e+1=>bif (p e).testBit w then pairsE p w e++[(w,e)] else pairsE p w e
def pairsW (p:Nat→Nat) (k:Nat):Nat→List (Nat×Nat)
 |0=>[]
 |w+1=>pairsW p k w++pairsE p w k
theorem pairsE_mem {p:Nat→Nat} {w:Nat} {q:Nat×Nat}:∀ {e:Nat},q∈pairsE p w e↔q.1=w∧q.2<e∧(p q.2).testBit w=true
 |0=>by simp[pairsE]
 |e+1=>by
  have ih:=pairsE_mem (p:=p) (w:=w) (q:=q) (e:=e)
  rw[pairsE]
  cases h:(p e).testBit w with
  |true =>
   rw[cond_true,List.mem_append,ih,List.mem_singleton]
   constructor
   ·rintro (⟨h1,h2,h3⟩|rfl)
    ·exact⟨h1,by omega,h3⟩
    ·exact⟨rfl,by show e<e+1;omega,h⟩
   ·rintro⟨h1,h2,h3⟩
    by_cases q2:q.2=e
    ·exact .inr (by rw[← h1,← q2])
    ·exact .inl ⟨h1,by omega,h3⟩
  |false =>
   rw[cond_false,ih]
   constructor
   ·rintro⟨h1,h2,h3⟩;exact⟨h1,by omega,h3⟩
   ·rintro⟨h1,h2,h3⟩
    refine⟨h1,?_,h3⟩
    by_cases q2:q.2=e
    ·rw[q2,h] at h3;cases h3
    ·omega
theorem pairsW_mem {p:Nat→Nat} {k:Nat} {q:Nat×Nat}:∀ {w:Nat},q∈pairsW p k w↔q.1<w∧q.2<k∧(p q.2).testBit q.1=true
 |0=>by simp[pairsW]
 |w+1=>by
  rw[pairsW,List.mem_append,pairsW_mem,pairsE_mem]
  constructor
  ·rintro (⟨h1,h2,h3⟩|⟨h1,h2,h3⟩)
   ·exact⟨by omega,h2,h3⟩
   ·exact⟨by omega,h2,by rw[h1];exact h3⟩
  ·rintro⟨h1,h2,h3⟩
   by_cases e:q.1=w
   ·exact .inr ⟨e,h2,by rw[← e];exact h3⟩
   ·exact .inl ⟨by omega,h2,h3⟩
theorem pairsE_len (p:Nat→Nat) (w:Nat):∀ e,(pairsE p w e).length≤e
 |0=>Nat.le_refl _
 |e+1=>by
  have:=pairsE_len p w e
  rw[pairsE]
  cases (p e).testBit w with
  |true=>rw[cond_true,List.length_append,List.length_singleton];omega
  |false=>rw[cond_false];omega
theorem pairsW_len (p:Nat→Nat) (k:Nat):∀ w,(pairsW p k w).length≤w*k
 |0=>by simp[pairsW]
 |w+1=>by
  have h1:=pairsW_len p k w
  have h2:=pairsE_len p w k
  rw[pairsW,List.length_append,Nat.add_mul];omega
def pairPV (q:Nat×Nat):PV:=.agg [i64 q.1,i64 q.2]
def pairsL (m:Mo) (a:Act):List (Nat×Nat):=pairsW (possP m a) a.pre.length m.n.toNat
def moaI (m:Mo) (a:Act):Int:=bif moI m != 0 then moI m else actI a (m.rel.length:Int) (m.val.length:Int)
def worldsI (m:Mo) (a:Act):List (Nat×Nat)×Int :=
 bif moaI m a != 0 then ([],moaI m a) else bif ((pairsL m a).length:Int)==0 then ([],11) else (pairsL m a,0)
def worldsPV (x:List (Nat×Nat)×Int):PV:=.tup [.sl (x.1.map pairPV),.int .i64 x.2]
theorem le_worlds (e:Int):PLe (.tup [.nil,.int .i64 e]) (worldsPV ([],e)):=PLe.tups ⟨.nil,.refl _,trivial⟩
theorem moaI_ok {m:Mo} {a:Act} (h:moaI m a=0):(∃ n,OkM m n)∧actI a (m.rel.length:Int) (m.val.length:Int)=0:=by
 unfold moaI at h
 cases h1:(moI m != 0) with
 |true=>rw[h1] at h;simp only[cond_true] at h;rw[h] at h1;cases h1
 |false =>
  rw[h1] at h
  exact⟨moI_ok (by simpa using h1),h⟩
theorem pre_holds {m:Mo} {a:Act} (h:moaI m a=0) {e:Nat} (he:e<a.pre.length):holdsI m (a.pre.getD e [])=(possP m a e,0)∧possP m a e<2^m.n.toNat:=by
 obtain⟨⟨n,hM⟩,hA⟩:=moaI_ok h
 have hs:=(evs_all (actI_ok hA).ev).1 _ (List.mem_iff_getElem?.2 ⟨e,getD_mem he (d:=[])⟩)
 have hr:reqI m (a.pre.getD e [])=0:=by rw[reqI,ok_moI hM];exact hs
 have hh:holdsI m (a.pre.getD e [])=(vlT m m.n.toNat (root (a.pre.getD e [])),0):=by rw[holdsI,hr];rfl
 refine⟨by rw[possP,hh],?_⟩
 rw[possP,hh,hM.nn,Int.toNat_natCast]
 exact vlT_lt hM.vbits _
def valuP (m:Mo) (a:Act) (e i:Nat):Nat:=(holdsI m (valI a e i).1).1
def valP (m:Mo) (a:Act) (l:List (Nat×Nat)) (i:Nat):Nat:=maskOf (fun k=>(valuP m a (l.getD k (0,0)).2 i).testBit (l.getD k (0,0)).1) l.length
def seesP (r q:List Nat) (x y:Nat×Nat):Bool:=bif (r.getD x.1 0).testBit y.1 then (q.getD x.2 0).testBit y.2 else false
def rowP (r q:List Nat) (l:List (Nat×Nat)) (x:Nat×Nat):Nat:=maskOf (fun k=>seesP r q x (l.getD k (0,0))) l.length
def relP (m:Mo) (a:Act) (l:List (Nat×Nat)) (i:Nat):List Nat:=l.map (rowP (m.rel.getD i []) (a.rel.getD i []) l)
def prodM (m:Mo) (a:Act) (l:List (Nat×Nat)):Mo:=⟨(l.length:Int),(List.range m.val.length).map (valP m a l),(List.range m.rel.length).map (relP m a l)⟩
def updI (m:Mo) (a:Act):Mo×List (Nat×Nat)×Int :=
 bif (worldsI m a).2 != 0 then (noMo,[],(worldsI m a).2) else bif decide (((worldsI m a).1.length:Int)>64) then (noMo,[],8) else (prodM m a (worldsI m a).1,(worldsI m a).1,0)
def updPV (x:Mo×List (Nat×Nat)×Int):PV:=.tup [x.1.pv,.sl (x.2.1.map pairPV),.int .i64 x.2.2]
theorem le_upd (e:Int):PLe (.tup [.agg [.int .i64 0,.nil,.nil],.nil,.int .i64 e]) (updPV (noMo,[],e)):=PLe.tups ⟨le_noMo,.nil,.refl _,trivial⟩
theorem worldsI_ok {m:Mo} {a:Act} (h:(worldsI m a).2=0):moaI m a=0∧(worldsI m a).1=pairsL m a∧1≤(pairsL m a).length:=by
 unfold worldsI at h ⊢
 cases h1:(moaI m a != 0) with
 |true=>rw[h1] at h;simp only[cond_true] at h;rw[h] at h1;cases h1
 |false =>
  rw[h1] at h
  cases h2:(((pairsL m a).length:Int)==0) with
  |true=>rw[h2] at h;cases h
  |false =>
   have:¬ ((pairsL m a).length:Int)=0:=by simpa using h2
   exact⟨by simpa using h1,rfl,by omega⟩
theorem valI_ok {m:Mo} {a:Act} (h:moaI m a=0) {e i:Nat} (he:e<a.pre.length) (hi:i<m.val.length):(valI a e i).2=0:=by
 obtain⟨⟨n,hM⟩,hA⟩:=moaI_ok h
 have h1:=(act_alone hM.fa hA).1
 have h2:badEv a (e:Int)=false:=by
  unfold badEv
  rw[decide_eq_false (by omega),decide_eq_false (by omega)];rfl
 have h3:badF (i:Int)=false:=by
  have:=hM.fa
  unfold badF
  rw[decide_eq_false (by omega),decide_eq_false (by omega)];rfl
 rw[valI,h1,h2,h3];rfl
theorem holds_lt {m:Mo} {f:List Nd} (n:Nat) (hM:OkM m n):(holdsI m f).1<2^n:=by
 unfold holdsI
 cases (reqI m f != 0) with
 |true=>exact Nat.two_pow_pos n
 |false =>
  show vlT m m.n.toNat (root f)<2^n
  rw[hM.nn,Int.toNat_natCast]
  exact vlT_lt hM.vbits _
theorem prod_ok {m:Mo} {a:Act} {n:Nat} (hM:OkM m n) {l:List (Nat×Nat)} (h1:1≤l.length) (h64:l.length≤64):OkM (prodM m a l) l.length:=by
 refine⟨rfl,h1,h64,by simp[prodM];exact hM.ag,by simp[prodM];exact hM.fa,fun r hr => ?_,fun s hs => ?_,fun r hr s hs => ?_⟩
 ·obtain⟨i,_,rfl⟩:=List.mem_map.1 hr
  simp[relP]
 ·obtain⟨i,_,rfl⟩:=List.mem_map.1 hs
  exact maskOf_lt _ _
 ·obtain⟨i,_,rfl⟩:=List.mem_map.1 hr
  obtain⟨x,_,rfl⟩:=List.mem_map.1 hs
  exact maskOf_lt _ _
def badW (m:Mo) (w:Int):Bool:=bif decide (w<0) then true else decide (w≥m.n)
def atI (m:Mo) (w:Int) (a:Act) (e:Int):Mo×Int×Int :=
 bif (updI m a).2.2 != 0 then (noMo,0,(updI m a).2.2) else bif badW m w then (noMo,0,2) else bif badEv a e then (noMo,0,6)
 else match (updI m a).2.1.findIdx? fun q=>(bif (q.1:Int)==w then (q.2:Int)==e else false) with
  |none=>(noMo,0,11)
  |some i=>((updI m a).1,(i:Int),0)
def atPV (x:Mo×Int×Int):PV:=.tup [x.1.pv,.int .i64 x.2.1,.int .i64 x.2.2]
theorem all_bit {n i:Nat} (h:i<n):(2^n-1).testBit i=true:=by rw[Nat.testBit_two_pow_sub_one];exact decide_eq_true h
theorem seesP_iff {r q:List Nat} {x y:Nat×Nat}:seesP r q x y=true↔(r.getD x.1 0).testBit y.1=true∧(q.getD x.2 0).testBit y.2=true:=by
 unfold seesP
 cases (r.getD x.1 0).testBit y.1<;>simp
section
variable {r q:List Nat} {l:List (Nat×Nat)}
theorem prow_bit {k j:Nat} (hk:k<l.length):(((l.map (rowP r q l)).getD k 0).testBit j=true)↔j<l.length∧seesP r q (l.getD k (0,0)) (l.getD j (0,0))=true:=by
 have e:(l.map (rowP r q l)).getD k 0=rowP r q l (l.getD k (0,0)):=by
  rw[List.getD_eq_getElem?_getD,List.getElem?_map,getD_mem hk (d:=(0,0))];rfl
 rw[e,rowP,maskOf_bit,Bool.and_eq_true,decide_eq_true_eq]
end
def pairsB (p:Nat→Nat) (k w e:Nat):List (Nat×Nat):=pairsW p k w++pairsE p w e
theorem pairsB_zero (p:Nat→Nat) (k w:Nat):pairsB p k w 0=pairsW p k w:=List.append_nil _
theorem pairsB_full (p:Nat→Nat) (k w:Nat):pairsB p k w k=pairsW p k (w+1):=rfl
theorem pairsB_succ (p:Nat→Nat) (k w e:Nat):pairsB p k w (e+1)=bif (p e).testBit w then pairsB p k w e++[(w,e)] else pairsB p k w e:=by
 unfold pairsB
 rw[pairsE]
 cases (p e).testBit w with
 |true=>exact (List.append_assoc _ _ _).symm
 |false=>rfl
def mixV (n:Nat) (p q:Nat→PV) (e:Nat):List PV:=(List.range n).map fun j=>bif decide (j<e) then p j else q j
theorem mixV_len (n:Nat) (p q:Nat→PV) (e:Nat):(mixV n p q e).length=n:=by simp[mixV]
theorem mixV_get {n:Nat} {p q:Nat→PV} {e j:Nat} (h:j<n):(mixV n p q e)[j]? = some (bif decide (j<e) then p j else q j):=by
 simp[mixV,List.getElem?_map,List.getElem?_range h]
theorem mixV_old {n:Nat} {p q:Nat→PV} {e:Nat} (h:e<n):(mixV n p q e)[e]? = some (q e):=by
 rw[mixV_get h,decide_eq_false (Nat.lt_irrefl e)];rfl
theorem mixV_new {n:Nat} {p q:Nat→PV} {e j:Nat} (h:j<n) (hj:j<e):(mixV n p q e)[j]? = some (p j):=by
 rw[mixV_get h,decide_eq_true hj];rfl
theorem mixV_set {n:Nat} {p q:Nat→PV} {e:Nat}:(mixV n p q e).set e (p e)=mixV n p q (e+1):=by
 apply List.ext_getElem?
 intro i
 rw[List.getElem?_set]
 by_cases hi:i<n
 ·rw[mixV_get hi,mixV_get hi,mixV_len]
  by_cases he:e=i
  ·subst he;simp[hi]
  ·have:decide (i<e+1)=decide (i<e):=by
    by_cases q:i<e
    ·simp[q,Nat.lt_succ_of_lt q]
    ·have:¬ i<e+1:=by omega
     simp[q,this]
   simp[he,this]
 ·rw[List.getElem?_eq_none (by rw[mixV_len];omega),List.getElem?_eq_none (by rw[mixV_len];omega),mixV_len]
  split
  ·split
   ·rename_i h3 h4;omega
   ·rfl
  ·rfl
theorem mixV_zero (n:Nat) (p q:Nat→PV):mixV n p q 0=(List.range n).map q:=by simp[mixV]
theorem mixV_rep (n:Nat) (p:Nat→PV) (z:PV):List.replicate n z=mixV n p (fun _=>z) 0:=by
 rw[mixV_zero]
 apply List.ext_getElem (by simp)
 intro i h1 h2
 simp
theorem mixV_full (n:Nat) (p q:Nat→PV):mixV n p q n=(List.range n).map p:=by
 apply List.map_congr_left
 intro j hj
 rw[decide_eq_true (List.mem_range.1 hj)];rfl
theorem range_map {α:Type} {g:α→PV} {d:α} (l:List α):(List.range l.length).map (fun j=>g (l.getD j d))=l.map g:=map_getD rfl
theorem pow64_le {n:Nat} (hn:n≤64):2^n≤2^64:=Nat.pow_le_pow_right (by decide) hn
def xorU (a b:Int):Int:=IntKind.wrap .u64 ((BitVec.ofInt (IntKind.bits .u64) a ^^^ BitVec.ofInt (IntKind.bits .u64) b).toNat:Int)
theorem xorU_nat {a b:Nat} (ha:a<2^64) (hb:b<2^64):xorU a b=((a ^^^ b:Nat):Int):=by
 have hlt:a ^^^ b<2^64:=Nat.xor_lt_two_pow ha hb
 unfold xorU
 show IntKind.wrap .u64 ((BitVec.ofInt 64 (a:Int) ^^^ BitVec.ofInt 64 (b:Int)).toNat:Int)=_
 rw[ofInt_nat,ofInt_nat,BitVec.toNat_xor,ofNat_toNat ha,ofNat_toNat hb,wrapU (by omega) (by omega)]
def complN (a:Nat):Nat:=(2^64-1) ^^^ a
theorem complN_lt {a:Nat} (ha:a<2^64):complN a<2^64:=Nat.xor_lt_two_pow (by decide) ha
theorem complN_bit {a i:Nat} (hi:i<64):(complN a).testBit i=!a.testBit i:=by
 rw[complN,Nat.testBit_xor,Nat.testBit_two_pow_sub_one,decide_eq_true hi];cases a.testBit i<;>rfl
theorem compl_run {a:Nat} (ha:a<2^64):IntKind.wrap .u64 ((BitVec.ofInt (IntKind.bits .u64) (if (IntKind.u64).signed then -1 else IntKind.max .u64) ^^^ BitVec.ofInt (IntKind.bits .u64) (a:Int)).toNat:Int)=((complN a:Nat):Int) :=
 xorU_nat (a:=2^64-1) (by decide) ha
theorem shr_all {n:Nat} (h1:1≤n) (hn:n≤64):shrU 18446744073709551615 ((64:Int)-n)=((2^n-1:Nat):Int):=by
 have e:((64:Int)-n)=((64-n:Nat):Int):=by omega
 rw[e,show (18446744073709551615:Int)=((2^64-1:Nat):Int) from rfl,shrU_nat _ _ (by omega)]
 congr 1
 apply Nat.eq_of_testBit_eq
 intro i
 rw[Nat.testBit_shiftRight,Nat.testBit_two_pow_sub_one,Nat.testBit_two_pow_sub_one]
 congr 1
 rw[eq_iff_iff];omega
theorem andNotU_out {n s:Nat} (_hn:n≤64) (hs:s<2^64):(andNotU (s:Int) ((2^n-1:Nat):Int) != 0)=!decide (s<2^n):=by
 have h:=andNotU_subM (b:=2^n-1) hs
 rw[bne,h]
 congr 1
 rw[Bool.eq_iff_iff,subM_iff,decide_eq_true_eq]
 constructor
 ·intro h
  apply Nat.lt_pow_two_of_testBit
  intro i hi
  cases hb:s.testBit i with
  |false=>rfl
  |true =>
   have:=h i hb
   rw[Nat.testBit_two_pow_sub_one,decide_eq_true_eq] at this
   omega
 ·intro h i hi
  exact all_bit (bit_lt h hi)
theorem andNotU_sub {a b:Nat} (ha:a<2^64):(andNotU (a:Int) (b:Int)==0)=subM a b:=andNotU_subM ha
theorem box_compl {n:Nat} {r:List Nat} {s:Nat} (hn:n≤64) (hb:∀ s,s∈r→s<2^n):boxN n r (complN s)=boxN n r (notN n s):=by
 refine maskOf_congr fun w _ => ?_
 rw[Bool.eq_iff_iff,subM_iff,subM_iff]
 have hg:=getD_lt2 hb w
 constructor
 ·intro h i hi
  have:=h i hi
  have hin:=bit_lt hg hi
  rw[complN_bit (by omega)] at this
  rw[notN,maskOf_bit,this,decide_eq_true hin];rfl
 ·intro h i hi
  have:=h i hi
  have hin:=bit_lt hg hi
  rw[notN,maskOf_bit,Bool.and_eq_true] at this
  rw[complN_bit (by omega)];exact this.2
theorem mask_or {q:Nat→Bool} {w:Nat} (hq:q w=true):maskOf q w |||2^w=maskOf q (w+1):=by rw[maskOf,hq];rfl
theorem mask_no {q:Nat→Bool} {w:Nat} (hq:q w=false):maskOf q w=maskOf q (w+1):=by rw[maskOf,hq];rfl
theorem mask_lt64 (q:Nat→Bool) {w:Nat} (hw:w≤64):maskOf q w<2^64:=Nat.lt_of_lt_of_le (maskOf_lt q w) (pow64_le hw)
theorem or_shl {q:Nat→Bool} {w:Nat} (hw:w<64) (hq:q w=true):orU (maskOf q w:Nat) (shlU 1 (w:Int))=((maskOf q (w+1):Nat):Int):=by
 rw[shlU_one hw,orU_nat (mask_lt64 q (by omega)) (Nat.pow_lt_pow_right (by decide) hw),mask_or hq]
theorem all_nat {n:Nat} (hn:n<64):IntKind.wrap .u64 (shlU 1 (n:Int)-1)=((2^n-1:Nat):Int):=by
 have h2:=Nat.two_pow_pos n
 have h3:2^n<2^64:=Nat.pow_lt_pow_right (by decide) hn
 rw[shlU_one hn,wrapU (by omega) (by omega)];omega
theorem md_all (n:Nat) (hn:n≤64):PureFn Tryz.prog 114 [i64 n] (u64 (2^n-1)):=by
 refine PureFn.intro mixed (fn:=Tryz.f114) rfl rfl rfl fun M w0 => ?_
 (try conv=>whnf);repeat' (first|(apply And.intro<;>try conv=>whnf)|(intro h;try conv=>whnf)|fail)
 ·have h1:=of_decide_eq_true h
  obtain rfl:n=64:=by omega
  exact .refl _
 ·exact Int.natCast_nonneg _
 ·have h1:=of_decide_eq_false h
  exact le_int (all_nat (by omega))
def HO (n:Nat):List (Nat×DObj):=[(0,.var [.pv (i64 n)])]
theorem out1 {M:Nat→Prop} {w0:W0} (n s:Nat) (hn:n≤64) (hs:s<2^64) (base:Nat) (K:DV→DH→Prop) (hK:K (.pv (.bool (!decide (s<2^n)))) ⟨1,0,base,objsOf (HO n)⟩) :
  DC Tryz.prog M w0 123 [.pv (u64 s),.ref 0 0] ⟨1,0,base,objsOf (HO n)⟩ K:=by
 refine DC.weaken (DC.intro mixed (fn:=Tryz.f123) rfl rfl rfl ?_)
 have hA:=md_all n hn
 rw[← andNotU_out hn hs] at hK
 (try conv=>whnf);repeat' (first|(refine PureFn.dy hA rfl ?_;try conv=>whnf)|fail)
 exact⟨_,1,HO n,(by exact Wk.sm rfl rfl rfl rfl rfl),hK⟩
theorem idx_U {M:Nat→Prop} {w0:W0} (n:Nat) (hn:n≤64) (l:List Nat) (hl:l.length≤1000) (hs:∀ s,s∈l→s<2^64) (base:Nat) (K:DV→DH→Prop) (hK:∀ r:Int,decide (r≥0)=outB n l→K (.pv (.int .i64 r)) ⟨1,0,base,objsOf (HO n)⟩) :
  DC Tryz.prog M w0 157 [.pv (.sl (l.map u64)),.clo 123 [] [.ref 0 0]] ⟨1,0,base,objsOf (HO n)⟩ K:=by
 refine DC.weaken (DC.intro mixed (fn:=Tryz.f157) rfl rfl rfl ?_)
 try conv=>whnf
 refine⟨{ i:Nat // i≤l.length∧(l.take i).any (fun s=>!decide (s<2^n))=false },fun i=>[(0,.pv (.sl (l.map u64))),(1,.clo 123 [] [.ref 0 0]),(7,.pv (i64 (l.map u64).length)),(8,.pv (i64 i.1))],fun _=>1,fun _=>HO n,fun i=>l.length-i.1,⟨⟨0,Nat.zero_le _,rfl⟩,(by exact Wk.sm rfl rfl rfl rfl rfl)⟩,?_⟩
 rintro⟨i,hi,ha⟩
 (try conv=>whnf);repeat' (first|(apply And.intro<;>try conv=>whnf)|(intro h;try conv=>whnf)|(apply infoT;rfl)|fail)
 ·have hi':i<l.length:=by simpa using lt_dec h
  have hm:l[i]? = some l[i]:=List.getElem?_eq_getElem hi'
  have hsi:=hs _ (List.getElem_mem hi')
  refine⟨_,_,rfl,idx_map hm,rfl,?_⟩
  try conv=>whnf
  refine out1 n l[i] hn hsi _ _ ?_
  (try conv=>whnf);repeat' (first|(apply And.intro<;>try conv=>whnf)|(intro h;try conv=>whnf)|fail)
  ·have e:outB n l=true:=any_at hi' h
   exact⟨.pv (.int .i64 (i:Int)),1,HO n,(by exact Wk.sm rfl rfl rfl rfl rfl),hK i (by rw[e];simp)⟩
  ·exact⟨⟨i+1,hi',any_take hi' ha h⟩,by show l.length-(i+1)<l.length-i;omega,(by refine Wk.of ?_ ?_ rfl rfl rfl<;>repeat' (first|exact trivial|exact WkD.same _|exact WkO.same _ _ rfl|refine WkD.int ?_|refine⟨?_,?_⟩|(refine wrapA ?_ ?_ ?_;(focus simp;done);(focus (try dsimp only);omega);(focus (try dsimp only);omega))|fail))⟩
 ·have hi':i=l.length:=by have:=ge_dec (m:=(l.map u64).length) h (by simpa using hi);simpa using this
  subst hi'
  rw[List.take_length] at ha
  exact⟨.pv (.int .i64 (-1)),1,HO n,(by exact Wk.sm rfl rfl rfl rfl rfl),hK (-1) (by rw[show outB n l=false from ha];decide)⟩
theorem cont_U {M:Nat→Prop} {w0:W0} (n:Nat) (hn:n≤64) (l:List Nat) (hl:l.length≤1000) (hs:∀ s,s∈l→s<2^64) (base:Nat) (K:DV→DH→Prop) (hK:K (.pv (.bool (outB n l))) ⟨1,0,base,objsOf (HO n)⟩) :
  DC Tryz.prog M w0 122 [.pv (.sl (l.map u64)),.clo 123 [] [.ref 0 0]] ⟨1,0,base,objsOf (HO n)⟩ K:=by
 refine DC.intro mixed (fn:=Tryz.f122) rfl rfl rfl ?_
 try conv=>whnf
 refine idx_U n hn l hl hs 1 _ fun r e => ?_
 rw[← e] at hK
 try conv=>whnf
 exact hK
theorem md_outside (n:Nat) (l:List Nat) (hn:n≤64) (hl:l.length≤1000) (hs:∀ s,s∈l→s<2^64):PureFn Tryz.prog 91 [.sl (l.map u64),i64 n] (.bool (outB n l)):=by
 refine PureFn.intro mixed (fn:=Tryz.f91) rfl rfl rfl fun M w0 => ?_
 try conv=>whnf
 refine cont_U n hn l hl hs 0 _ ?_
 try conv=>whnf
 exact .refl _
def HM (m:Mo):List (Nat×DObj):=[(0,.var (cellsM m))]
theorem chk1 {M:Nat→Prop} {w0:W0} (m:Mo) (n:Nat) (hmn:m.n=n) (hn:n≤64) (r:List Nat) (hl:r.length≤1000) (hs:∀ s,s∈r→s<2^64) (base:Nat) (K:DV→DH→Prop) (hK:K (.pv (.bool (outB n r))) ⟨1,0,base,objsOf (HM m)⟩) :
  DC Tryz.prog M w0 93 [.pv (rowPV r),.ref 0 0] ⟨1,0,base,objsOf (HM m)⟩ K:=by
 refine DC.weaken (DC.intro mixed (fn:=Tryz.f93) rfl rfl rfl ?_)
 have hA:=md_outside n r hn hl hs
 rw[show i64 n=.int .i64 m.n by rw[hmn];rfl] at hA
 (try conv=>whnf);repeat' (first|(refine PureFn.dy hA rfl ?_;try conv=>whnf)|fail)
 exact⟨_,1,HM m,(by exact Wk.sm rfl rfl rfl rfl rfl),hK⟩
theorem idx_M {M:Nat→Prop} {w0:W0} (m:Mo) (n:Nat) (hmn:m.n=n) (hn:n≤64) (rows:List (List Nat)) (hl:rows.length≤1000) (hr:∀ r,r∈rows→r.length≤1000∧∀ s,s∈r→s<2^64) (base:Nat) (K:DV→DH→Prop) (hK:∀ r:Int,decide (r≥0)=rows.any (fun r=>outB n r)→K (.pv (.int .i64 r)) ⟨1,0,base,objsOf (HM m)⟩) :
  DC Tryz.prog M w0 124 [.pv (.sl (rows.map rowPV)),.clo 93 [] [.ref 0 0]] ⟨1,0,base,objsOf (HM m)⟩ K:=by
 refine DC.weaken (DC.intro mixed (fn:=Tryz.f124) rfl rfl rfl ?_)
 try conv=>whnf
 refine⟨{ i:Nat // i≤rows.length∧(rows.take i).any (fun r=>outB n r)=false },fun i=>[(0,.pv (.sl (rows.map rowPV))),(1,.clo 93 [] [.ref 0 0]),(7,.pv (i64 (rows.map rowPV).length)),(8,.pv (i64 i.1))],fun _=>1,fun _=>HM m,fun i=>rows.length-i.1,⟨⟨0,Nat.zero_le _,rfl⟩,(by exact Wk.sm rfl rfl rfl rfl rfl)⟩,?_⟩
 rintro⟨i,hi,ha⟩
 (try conv=>whnf);repeat' (first|(apply And.intro<;>try conv=>whnf)|(intro h;try conv=>whnf)|(apply infoT;rfl)|fail)
 ·have hi':i<rows.length:=by simpa using lt_dec h
  have hm:rows[i]? = some rows[i]:=List.getElem?_eq_getElem hi'
  have hri:=hr _ (List.getElem_mem hi')
  refine⟨_,_,rfl,idx_map hm,rfl,?_⟩
  try conv=>whnf
  refine chk1 m n hmn hn rows[i] hri.1 hri.2 _ _ ?_
  (try conv=>whnf);repeat' (first|(apply And.intro<;>try conv=>whnf)|(intro h;try conv=>whnf)|fail)
  ·have e:rows.any (fun r=>outB n r)=true:=any_at hi' h
   exact⟨.pv (.int .i64 (i:Int)),1,HM m,(by exact Wk.sm rfl rfl rfl rfl rfl),hK i (by rw[e];simp)⟩
  ·exact⟨⟨i+1,hi',any_take hi' ha h⟩,by show rows.length-(i+1)<rows.length-i;omega,(by refine Wk.of ?_ ?_ rfl rfl rfl<;>repeat' (first|exact trivial|exact WkD.same _|exact WkO.same _ _ rfl|refine WkD.int ?_|refine⟨?_,?_⟩|(refine wrapA ?_ ?_ ?_;(focus simp;done);(focus (try dsimp only);omega);(focus (try dsimp only);omega))|fail))⟩
 ·have hi':i=rows.length:=by have:=ge_dec (m:=(rows.map rowPV).length) h (by simpa using hi);simpa using this
  subst hi'
  rw[List.take_length] at ha
  exact⟨.pv (.int .i64 (-1)),1,HM m,(by exact Wk.sm rfl rfl rfl rfl rfl),hK (-1) (by rw[ha];decide)⟩
theorem cont_M {M:Nat→Prop} {w0:W0} (m:Mo) (n:Nat) (hmn:m.n=n) (hn:n≤64) (rows:List (List Nat)) (hl:rows.length≤1000) (hr:∀ r,r∈rows→r.length≤1000∧∀ s,s∈r→s<2^64) (base:Nat) (K:DV→DH→Prop) (hK:K (.pv (.bool (rows.any (fun r=>outB n r)))) ⟨1,0,base,objsOf (HM m)⟩) :
  DC Tryz.prog M w0 92 [.pv (.sl (rows.map rowPV)),.clo 93 [] [.ref 0 0]] ⟨1,0,base,objsOf (HM m)⟩ K:=by
 refine DC.intro mixed (fn:=Tryz.f92) rfl rfl rfl ?_
 try conv=>whnf
 refine idx_M m n hmn hn rows hl hr 1 _ fun r e => ?_
 rw[← e] at hK
 try conv=>whnf
 exact hK
theorem md_Check (m:Mo) (hf:FitM m):PureFn Tryz.prog 40 [m.pv] (.int .i64 (moI m)):=by
 refine PureFn.introC [3,5,11] mixed (fn:=Tryz.f40) rfl rfl rfl fun M w0 => ?_
 have e1:((m.val.map u64).length:Int)=(m.val.length:Int):=by simp
 have e2:((m.rel.map rowPV).length:Int)=(m.rel.length:Int):=by simp
 try conv=>whnf
 refine⟨{ _x:Unit // moB1 m=false },fun _=>[(1,.ref 0 0)],fun _=>1,fun _=>HM m,?_,?_⟩
 ·(try conv=>whnf);repeat' (first|(apply And.intro<;>try conv=>whnf)|(intro h;try conv=>whnf)|apply True.intro|(apply WhenQ.mk;(try conv=>whnf);rotate_left;(try conv=>whnf);rotate_right)|with_reducible assumption|(apply not_of;with_reducible assumption)|fail)
  ·refine le_int ?_
   rw[moI,show moB1 m=true from h];rfl
  ·exact⟨⟨(),h⟩,(by exact Wk.sm rfl rfl rfl rfl rfl)⟩
 rintro⟨_,h1⟩
 obtain⟨n,hmn,n1,n64⟩:=moB1_no h1
 refine⟨{ _x:Unit // moB2 m=false },fun _=>[(1,.ref 0 0)],fun _=>1,fun _=>HM m,?_,?_⟩
 ·(try conv=>whnf);repeat' (first|(apply And.intro<;>try conv=>whnf)|(intro h;try conv=>whnf)|apply True.intro|(apply WhenQ.mk;(try conv=>whnf);rotate_left;(try conv=>whnf);rotate_right)|with_reducible assumption|(apply not_of;with_reducible assumption)|fail)
  ·have h9:moB2 m=true:=by rw[moB2,← e1,← e2];exact h
   refine le_int ?_
   rw[moI,h1,h9];rfl
  ·have h9:moB2 m=false:=by rw[moB2,← e1,← e2];exact h
   exact⟨⟨(),h9⟩,(by exact Wk.sm rfl rfl rfl rfl rfl)⟩
 rintro⟨_,h2⟩
 obtain⟨ag,fa⟩:=moB2_no h2
 refine⟨{ _x:Unit // moB3 m=false },fun _=>[(1,.ref 0 0)],fun _=>1,fun _=>HM m,?_,?_⟩
 ·try conv=>whnf
  refine⟨{ i:Nat // i≤m.rel.length∧(m.rel.take i).any (fun r=>(r.length:Int) != m.n)=false },fun i=>[(1,.ref 0 0),(24,.pv (.sl (m.rel.map rowPV))),(25,.pv (i64 (m.rel.map rowPV).length)),(26,.pv (i64 i.1))],fun _=>1,fun _=>HM m,fun i=>m.rel.length-i.1,⟨⟨0,Nat.zero_le _,rfl⟩,(by exact Wk.sm rfl rfl rfl rfl rfl)⟩,?_⟩
  rintro⟨i,hi,ha⟩
  (try conv=>whnf);repeat' (first|(apply And.intro<;>try conv=>whnf)|(intro h;try conv=>whnf)|(apply infoT;rfl)|fail)
  ·have hi':i<m.rel.length:=by simpa using lt_dec h
   have hm:m.rel[i]? = some m.rel[i]:=List.getElem?_eq_getElem hi'
   have e3:(((m.rel[i]).map u64).length:Int)=((m.rel[i]).length:Int):=by simp
   refine⟨_,_,rfl,idx_map hm,rfl,?_⟩
   (try conv=>whnf);repeat' (first|(apply And.intro<;>try conv=>whnf)|(intro h;try conv=>whnf)|fail)
   ·have e:moB3 m=true:=any_at hi' (by rw[← e3];exact h)
    refine le_int ?_
    rw[moI,h1,h2,e];rfl
   ·exact⟨⟨i+1,hi',any_take hi' ha (by rw[← e3];exact h)⟩,by show m.rel.length-(i+1)<m.rel.length-i;omega,(by refine Wk.of ?_ ?_ rfl rfl rfl<;>repeat' (first|exact trivial|exact WkD.same _|exact WkO.same _ _ rfl|refine WkD.int ?_|refine⟨?_,?_⟩|(refine wrapA ?_ ?_ ?_;(focus simp;done);(focus (try dsimp only);omega);(focus (try dsimp only);omega))|fail))⟩
  ·have hi':i=m.rel.length:=by have:=ge_dec (m:=(m.rel.map rowPV).length) h (by simpa using hi);simpa using this
   subst hi'
   rw[List.take_length] at ha
   exact⟨⟨(),ha⟩,(by exact Wk.sm rfl rfl rfl rfl rfl)⟩
 rintro⟨_,h3⟩
 have hrl:∀ r,r∈m.rel→r.length≤1000:=fun r hr=>by
  have:=List.any_eq_false.1 h3 r hr
  have h6:((r.length:Int) != m.n)=false:=by simpa using this
  have h7:(r.length:Int)=m.n:=by simpa using h6
  omega
 have hO:=md_outside n m.val n64 (by omega) hf.1
 rw[show i64 n=.int .i64 m.n by rw[hmn];rfl] at hO
 have e4:moB4 m=bif outB n m.val then true else m.rel.any fun r=>outB n r:=by rw[moB4,hmn,Int.toNat_natCast]
 (try conv=>whnf);repeat' (first|(apply And.intro<;>try conv=>whnf)|(intro h;try conv=>whnf)|apply True.intro|(apply WhenQ.mk;(try conv=>whnf);rotate_left;(try conv=>whnf);rotate_right)|with_reducible assumption|(refine PureFn.dy hO rfl ?_;try conv=>whnf)|fail)
 ·refine cont_M m n hmn n64 m.rel (by omega) (fun r hr=>⟨hrl r hr,hf.2 r hr⟩) 0 _ ?_
  (try conv=>whnf);repeat' (first|(apply And.intro<;>try conv=>whnf)|fail)
 ·(try conv=>whnf);repeat' (first|(apply And.intro<;>try conv=>whnf)|(intro h;try conv=>whnf)|(apply not_of;with_reducible assumption)|fail)
  ·refine le_int ?_
   rw[moI,h1,h2,h3,e4,h];rfl
  ·refine le_int ?_
   rw[moI,h1,h2,h3,e4,h];rfl
end Go.Proofs.YtejbieopeicgkaaGreatDoor
