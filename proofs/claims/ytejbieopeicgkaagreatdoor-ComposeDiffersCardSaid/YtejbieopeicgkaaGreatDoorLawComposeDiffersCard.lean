/- The law ComposeDiffers, as a card: whatever the input, the law returns true and the input reads as it did; the table math/bits.deBruijn64tab is tied to the program's text. No other conditions. -/
import Derived.Test.YtejbieopeicgkaaGreatDoorCards
import Derived.Test.YtejbieopeicgkaaGreatDoorTie
import Derived.ProofKit
import Derived.LaidMore
import Derived.OpenShut
import Derived.Stop.Joined
import Derived.SevenTiedAt
import Derived.Test.YtejbieopeicgkaaGreatDoorM13
set_option maxRecDepth 100000
set_option maxHeartbeats 4000000
namespace Go.Proofs.YtejbieopeicgkaaGreatDoor
open Go Go.Dv Go.RowKit Go.ChangeShapes Go.WideShapes Go.ChangeAt Go.WideMaps Go.WideElems
def laid1:List (String×DataW Unit):=[("math/bits.deBruijn64tab",Rows.laid_math_bits_deBruijn64tab)]
theorem tab_named:Tryz.prog.globalNamed "math/bits.deBruijn64tab" = some 0:=by kernel_rfl
theorem tab_type:(Tryz.prog.globals[0]?).map (·.type)=some 199:=by kernel_rfl
theorem door_met (os:Os) (args:Array Value):laidMetH Tryz.prog laid1 ((World.doorLaid Tryz.prog 400 os).forCall (fun _ _=>0) ⟨#[],args,[]⟩).memory :=
 laidMetH_of_parts3 (fuel:=8) (laidMet_of_run' 8 (by kernel_rfl) (by kernel_rfl)) (by kernel_rfl) (by kernel_rfl)
theorem tab_lits:(Rows.laid_math_bits_deBruijn64tab:DataW Unit)=.agg (Lib.deBruijn64tab.map fun (v:Nat)=>.lit (.int .u8 (v:Int))):=rfl
theorem glb_of_laid {W:World} (h:laidMetH Tryz.prog laid1 W):Glb W:=by
 rw[MakeChecks.laidMetH_plain _ _ _ (by kernel_rfl)] at h;obtain⟨ps,⟨g0,t0,cs0,f0,p0,q0,hg0,ht0,hv0,hd0,_⟩,_⟩:=h;obtain rfl:=Option.some.inj (tab_named.symm.trans hg0);obtain rfl:=Option.some.inj (tab_type.symm.trans ht0);obtain⟨xs,m1,rfl,hx1,hlen,hn3,hel⟩:=DataW.trod_array Tryz.underlying199 hd0;have hx2:(Rows.laid_math_bits_deBruijn64tab:DataW Unit)=DataW.agg (xs.map fun x=>x.fst):=congrArg Prod.fst hx1;rw[tab_lits,DataW.agg.injEq] at hx2;have c5:Tryz.prog.cellsOf 5=1:=by kernel_rfl
 have hlen64:Lib.deBruijn64tab.length=64:=by decide
 have key:∀ j,j<Lib.deBruijn64tab.length->W.cell? ⟨0,j,none⟩=some (.int .u8 (Lib.deBruijn64tab.getD j 0)):=fun j hj=>by
  have hj64:j<64:=by omega
  have h1:=hel j hj64;rw[c5,Nat.mul_one] at h1;obtain⟨x,hx⟩:∃ x,xs[j]? = some x:=⟨_,List.getElem?_eq_getElem (by omega)⟩;rw[hx] at h1;obtain⟨k,e1,e2,_⟩:=DataW.trod_int Tryz.underlying5 h1;have h2:(Lib.deBruijn64tab.map fun (v:Nat)=>(DataW.lit (.int .u8 (v:Int)):DataW Unit))[j]? = some x.1:=by rw[hx2,List.getElem?_map,hx];rfl
  rw[List.getElem?_map] at h2;have hv:=World.var?_cell hg0 hv0 j
  have h3:cs0[j]? = some (.int .u8 k):=by
   have h4:=congrArg (fun l=>l[0]?) e1;simp only[List.getElem?_take,List.getElem?_drop] at h4;simpa using h4
  rw[q0f hj (d:=0),e2] at h2
  have h5:((Lib.deBruijn64tab.getD j 0:Nat):Int)=k:=by
   have h6:=Option.some.inj h2;simp only[DataW.lit.injEq,Lit.int.injEq,true_and] at h6;exact h6
  rw[hv,h3,h5]
 refine⟨?_,key⟩;have h0:=key 0 (by decide);apply Classical.byContradiction;intro hno;have hb:W.heap[0]? = none:=Array.getElem?_eq_none (by omega);unfold World.cell? at h0;rw[hb] at h0
 cases h0
theorem composeDiffers_lifted (os:Os) (started:os.Started) (H:Type) (enc:TypeId×Value->H) :
  ReturnsInHanded {} Tryz.checked os 3 .any (fun w args=>(Rows.composeDiffersSpec.pre enc Tryz.prog Tryz.f3 [] false w args/\laidMetH Tryz.prog laid1 w)/\sizedMet enc Tryz.prog Tryz.f3 (OpenSpec.ofChange Rows.composeDiffersSpec) false w args)
   (Rows.composeDiffersSpec.post enc Tryz.prog Tryz.f3 false true false false):=by
 refine returnsInHanded_of_change_and (C:=Tryz.checked) (X:=fun w _=>laidMetH Tryz.prog laid1 w) (fun _ _ _ hh h=>h.of_heap hh) Tryz.own started (by kernel_rfl) Tryz.func3
  (ChangeSpec.witness_shaped (enc:=enc) (C:=Tryz.checked) (os:=os) (X:=fun w _=>laidMetH Tryz.prog laid1 w) false (World.doorLaid Tryz.prog 400 os) #[.agg #[.int .i64 0,.slice none 0 0,.slice none 0 0],.agg #[.slice none 0 0,.slice none 0 0,.slice none 0 0,.int .i64 0],.agg #[.slice none 0 0,.slice none 0 0,.slice none 0 0,.int .i64 0]] 8 rfl (World.shaped_of_RefB (by kernel_rfl) (by kernel_rfl)) (by kernel_rfl) (by kernel_rfl) (by kernel_rfl) (door_met os _)) ?_
 intro W base args ds gs before hval hW _ _ hL _;exact law_calls (n:=8) Tryz.laidOut (by kernel_rfl) (by kernel_rfl) rfl (by kernel_rfl) rfl (fun ds hd=>by match ds,hd with|[a,b,c],_=>rfl) hval hW cdif_args (glb_of_laid hL)
theorem composeDiffers_row:Rows.ComposeDiffersSaid :=
 OpenClaim.holds_of_wide 3 Tryz.f3 rfl rfl rfl rfl rfl rfl rfl ⟨rfl,rfl,rfl,rfl,rfl⟩ rfl rfl rfl rfl rfl (by kernel_rfl) Tryz.func3 (by kernel_rfl)
  (of_decide_eq_true (by kernel_rfl)) (by unfold Func.isWrapper;first|(rw[if_pos (by decide +kernel)];kernel_rfl)|(rw[if_neg (by decide +kernel)];exact⟨rfl,rfl⟩))
  (fun os started H enc _=>composeDiffers_lifted os started H enc)
theorem composeDiffers_card:Rows.ComposeDiffersCardSaid :=
 Claim7.holds_tied_plain_at .later [] [.data] true (true,"20de31dfb0402d3e022c504b5a8c63c7de3c1a27a83e610c52aa006731eeaa1b") true
  composeDiffers_row (fun _ h=>by cases h) (by kernel_rfl) (fun _ h=>by cases h) composeDiffers_row_tie rfl ⟨rfl,rfl⟩ (by kernel_rfl) rfl
  (fun f fn hf hfn=>by
   obtain rfl:f=3:=Option.some.inj ((show Tryz.prog.funcNamed "witting/wittinglaw31.ComposeDiffers" = some 3 by kernel_rfl).symm.trans hf) |>.symm
   obtain rfl:fn=Tryz.f3:=(Option.some.inj (Tryz.func3.symm.trans hfn)).symm
   exact⟨by kernel_rfl,fun j t ht=>by
    rw[Tryz.params3] at ht;have hm:t∈[25,31,31]:=by simpa using Array.mem_of_getElem? ht
    have hall:([25,31,31].all fun u=>!Tryz.prog.wantsStandIn u)=true:=by kernel_rfl
    exact (show Tryz.prog.wantsStandIn t=false by simpa using List.all_eq_true.1 hall t hm)⟩)
  (by kernel_rfl)
end Go.Proofs.YtejbieopeicgkaaGreatDoor
