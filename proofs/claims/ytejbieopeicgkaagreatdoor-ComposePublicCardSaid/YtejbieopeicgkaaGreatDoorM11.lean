/- Parts of the proof, one after the other: slices.Insert at assignments: the library's text walked, over rows of two cells. slices.Insert at assignments: its contract over own arrays. The law TopComposedActions walked. Action models: simplified formulas and assignments (simple of the program walked). Action models: the part with some events (keep of the program walked). Alike events: some and matched of the program walked. Alike events: matched of the program walked. Alike events: the table, and what sweeping it comes to (plain). Alike events: alike of the program walked. Alike events: Alike of the program walked. -/
import Derived.WalkKit
import Derived.Lib.Walk
import Derived.Lib.SliceRun
import Derived.Lib.JoinLaws
import Derived.Lib.AppendZeros
import Derived.Lib.AppendZerosOnto
import Derived.Lib.Overlaps
import Derived.Laws.Externs
import Derived.Laws.CopyRow
import Derived.Laws.NewBlocks
import Derived.OwnWalk
import Derived.Shelf.RegionOpenPlain
import Derived.Test.YtejbieopeicgkaaGreatDoorM10
set_option maxRecDepth 100000
set_option maxHeartbeats 8000000
namespace Go.Proofs.YtejbieopeicgkaaGreatDoor
open Go Go.Dv Go.RowKit Go.Lib
theorem run_copy_row2 {P:Program} (w:World) (dT sT ty elem:TypeId) (g o dLen dCap:Nat) (a:Addr) (sLen sCap k:Nat) (cur:Array Value) (t:TypeId) (cs:List Value)
  (hu:P.underlying dT=some (.slice elem)) (hs:(P.info? elem).map (·.size)=some 2)
  (hg:w.heap[g]? = some (.cells cur t (0,0))) (hk:k=Nat.min sLen dLen) (hn:cs.length=k*2)
  (hsrc:∀ j v,cs[j]? = some v→w.cell? (a.add j)=some v) (hfit:o+cs.length≤cur.size) (h1:∀ v∈cs,v.oneCell'=true) :
  (Builtin.copy_ #[dT,sT] ty #[.slice (some ⟨g,o,none⟩) dLen dCap,.slice (some a) sLen sCap]).run P w =
   .ok (goInt k) (w.setRow g (cur.toList.take o++cs++cur.toList.drop (o+cs.length)).toArray):=by
 have hl:=run_loadCells_list (P:=P) w a cs hsrc
 have hst:=run_storeCells_at P g o t cs 0 cur w hg (by simpa using hfit) h1
 cases hq:P.info? elem with
 |none=>simp[hq] at hs
 |some i =>
  have hi:i.size=2:=by simpa [hq] using hs
  simp[Builtin.copy_,run_underlying hu,Builtin.lenOf,Builtin.firstCells,sizeOf,typeInfo,hq,hi,← hn,← hk,hl,hst]
theorem run_overlaps_own {P:Program} (w:World) (tS tR e:TypeId) (ht:P.underlying tS=some (.slice e)) (size:Nat) (hz:∀ w,(Go.sizeOf e).run P w=.ok size w)
  (a b:Addr) (la ca lb cb:Nat) (hne:a.block≠b.block) (tA tB:TypeId) (kA kB:Nat) (hkA:kA≠0)
  (hsa:w.shape? a.block=some (tA,kA)) (hsb:w.shape? b.block=some (tB,kB)) (hkB:kB≠0)
  (hfb:w.frozen? b=false) (hfe:w.frozen? { block:=b.block,off:=kB }=false) :
  (Extern.SlicesOverlaps.overlaps #[tS,tS] #[tR] #[.slice (some a) la ca,.slice (some b) lb cb]).run P w=.ok (.bool false) w:=by
 have hnb:(a.block != b.block)=true:=by simpa using hne
 have hnb':(a.block==b.block)=false:=by simpa using hne
 change Sem.run P (α:=Value) (do
  let some t:=(#[tS,tS]:Array TypeId)[0]? |stuck "slices.overlaps: no parameter types"
  let .slice elem ← underlying t|stuck "slices.overlaps: slice type expected"
  let size ← sizeOf elem
  match (some a:Option Addr),(some b:Option Addr) with
  |some a,some b =>
   if la=0∨lb=0∨size=0 then pure (Value.bool false)
   else if a.block != b.block && (← frozen a) && (← frozen b) then unsupported .addressObserved
   else do
    if a.block != b.block then do
     noView a;noView b
     if ← mayBeOne a b then return Value.bool ((← choose (.extern "sameAddr.stringBytes" 2))==1)
    pure (Value.bool (a.block==b.block && a.off<b.off+lb*size && b.off<a.off+la*size))
  |_,_=>pure (Value.bool false)) w=_
 by_cases h0:la=0∨lb=0∨size=0
 ·simp[run_underlying ht,hz,h0]
 ·cases kB with
  |zero=>exact absurd rfl hkB
  |succ kB =>
   cases kA with
   |zero=>exact absurd rfl hkA
   |succ kA =>
    simp[run_underlying ht,hz,h0,hnb,hnb',frozen,noView,viewAt,mayBeOne,stringish,shape,Sem.run,hsa,hsb,hfb,hfe]
theorem step_copy_run {P:Program} {ops:Array Oper} {o:Oper} {a:Go.Act} {w:World} {K:Go.Act→World→Prop} {Q:Exit→Go.Act→World→Prop} {E:Prop}
  (hg:o.guard=none) (d x:Operand) (dT sT:TypeId) (hop:o.op=Op.call { callee:=Callee.builtin Builtin.copy,args := #[d,x],argTypes := #[dT,sT] })
  (v u:Value) (hd:a.eval d=v) (hx:a.eval x=u) {v':Value} {w':World} (hr:(Builtin.copy_ #[dT,sT] o.type #[v,u]).run P w=.ok v' w') (hK:K (a.put o.dst v') w') :
  if Region.wanted o (yielded ops a.tmps)=true then Oper.wp P o a w K Q else E:=by
 have hw:Region.wanted o (yielded ops a.tmps)=true:=by simp[Region.wanted,hg]
 rw[if_pos hw]
 unfold Oper.wp
 simp[execOp,hop,resolve,invoke,builtin,hd,hx,hr,Result.andThen]
 exact hK
theorem wpList_copy_run {P:Program} (w:World) {ops:Array Oper} {rest:List Oper} {o:Oper} {a:Go.Act} {Q:Exit→Go.Act→World→Prop} (hgd:o.guard=none) (d s:Operand) (t t':TypeId)
  (ho:o.op=.call { callee:=.builtin .copy,args := #[d,s],argTypes := #[t,t'] }) (v u:Value) (hd:a.eval d=v) (hs:a.eval s=u) {v':Value} {w':World}
  (hr:(Builtin.copy_ #[t,t'] o.type #[v,u]).run P w=.ok v' w') (h:wpList P ops Q rest (a.put o.dst v') w'):wpList P ops Q (o::rest) a w :=
 wpList_plain hgd fun _ hK=>by
  unfold Oper.wp execOp
  simp only[ho,resolve,invoke,builtin,Sem.run_bind,Sem.run_pure,Result.andThen_ok,List.map_toArray,List.map_cons,List.map_nil,hd,hs,hr]
  exact hK _ _ h
theorem und55:Tryz.prog.underlying 55=some (.slice 109):=by kernel_rfl
theorem siz109:(Tryz.prog.info? 109).map (·.size)=some 2:=by kernel_rfl
theorem size109:∀ w,(Go.sizeOf 109).run Tryz.prog w=.ok 2 w:=fun w=>by
 have h:=siz109
 cases hq:Tryz.prog.info? 109 with
 |none=>rw[hq] at h;cases h
 |some i =>
  have hi:i.size=2:=by simpa [hq] using h
  simp[sizeOf,typeInfo,hq,hi]
theorem ov_run (w:World) (g vb voff vc i lb cb:Nat) (cur:Array Value) (ty:TypeId) (y0:Value) (hvb:vb≠g) (hg:w.heap[g]? = some (.cells cur ty (0,0))) (hcc:cur.size≠0) (hy0:w.cell? ⟨vb,voff,none⟩=some y0) :
  (callFunc 147 #[.slice (some ⟨vb,voff,none⟩) 1 vc,.slice (some ⟨g,i,none⟩) lb cb]).run Tryz.prog w=.ok (.value (.bool false)) w:=by
 obtain⟨tA,kA,hsa,hkA⟩:∃ tA kA,w.shape? vb=some (tA,kA)∧kA≠0:=by
  unfold World.cell? at hy0
  unfold World.shape?
  cases hb:w.heap[vb]? with
  |none=>rw[hb] at hy0;cases hy0
  |some ob =>
   rw[hb] at hy0
   cases ob with
   |cells c e f =>
    refine⟨e,c.size,rfl,fun q => ?_⟩
    simp at hy0
    have:=Array.getElem?_eq_some_iff.1 hy0
    obtain⟨h1,_⟩:=this
    omega
   |_=>cases hy0
 rw[run_callFunc_extern Tryz.func147 (by kernel_rfl) (by kernel_rfl) (by kernel_rfl) (e:=Extern.SlicesOverlaps.overlaps #[55,55] #[4]) (by kernel_rfl),
  run_overlaps_own w 55 4 109 und55 2 size109 ⟨vb,voff,none⟩ ⟨g,i,none⟩ 1 vc lb cb hvb tA ty kA cur.size hkA hsa (by simp[World.shape?,hg]) hcc (by simp[World.frozen?,hg]) (by simp[World.frozen?,hg])]
 rfl
theorem cells_run {w:World} {g o:Nat} {cur:Array Value} {ty:TypeId} (hg:w.heap[g]? = some (.cells cur ty (0,0))) {k:Nat}:∀ (j:Nat) v,((cur.toList.drop o).take k)[j]? = some v→w.cell? ((⟨g,o,none⟩:Addr).add j)=some v:=fun j v hj=>by
 rw[Addr.add_lit]
 rw[List.getElem?_take] at hj
 split at hj
 ·rw[List.getElem?_drop] at hj
  simp[World.cell?,hg]
  simpa using hj
 ·cases hj
def rowS (cur:Array Value) (i n:Nat):Array Value:=(cur.toList.take ((i+1)*2)++(cur.toList.drop (i*2)).take ((n-i)*2)++cur.toList.drop ((i+1)*2+((cur.toList.drop (i*2)).take ((n-i)*2)).length)).toArray
def rowN2 (cur:Array Value) (i:Nat) (y0 y1:Value):Array Value:=(cur.toList.take (i*2)++[y0,y1]++cur.toList.drop (i*2+[y0,y1].length)).toArray
theorem rowS_size {cur:Array Value} {i n:Nat} (hi:i<n) (hc:(n+1)*2≤cur.size):(rowS cur i n).size=cur.size:=by
 simp[rowS];omega
theorem ins_shift (w:World) (g n cap i vb voff vc:Nat) (cur:Array Value) (ty:TypeId) (y0 y1:Value) (hi:i<n) (hn:n≤1000) (hroom:n+1≤cap) (hvb:vb≠g) (hg:w.heap[g]? = some (.cells cur ty (0,0))) (hcc:cap*2≤cur.size)
  (hy0:w.cell? ⟨vb,voff,none⟩=some y0) (hy1:w.cell? ⟨vb,voff+1,none⟩=some y1) (h10:y0.oneCell'=true) (h11:y1.oneCell'=true) (h1c:∀ v∈(cur.toList.drop (i*2)).take ((n-i)*2),v.oneCell'=true) :
  Calls Tryz.prog 113 #[.slice (some ⟨g,0,none⟩) n cap,.int .i64 i,.slice (some ⟨vb,voff,none⟩) 1 vc] w fun e w' =>
   e=.returned (.slice (some ⟨g,0,none⟩) (n+1) cap)∧w'=(w.drew.setRow g (rowS cur i n)).setRow g (rowN2 (rowS cur i n) i y0 y1):=by
 have hov:=fun lb cb=>ov_run w g vb voff vc ((i+1)*2) lb cb cur ty y0 hvb hg (by omega) hy0
 have hcp1:∀ ty' dc sc,(Builtin.copy_ #[55,55] ty' #[.slice (some ⟨g,(i+1)*2,none⟩) (n-i) dc,.slice (some ⟨g,i*2,none⟩) (n+1-i) sc]).run Tryz.prog w.drew=.ok (goInt ((n-i:Nat):Int)) (w.drew.setRow g (rowS cur i n)):=fun ty' dc sc =>
  run_copy_row2 w.drew 55 55 ty' 109 g ((i+1)*2) (n-i) dc ⟨g,i*2,none⟩ (n+1-i) sc (n-i) cur ty _ und55 siz109 hg (by simp only[Nat.min_def];split<;>omega) (by simp;omega) (cells_run (w:=w.drew) hg) (by simp;omega) h1c
 obtain⟨W1,hW1⟩:∃ W1,w.drew.setRow g (rowS cur i n)=W1:=⟨_,rfl⟩
 have hg1:W1.heap[g]? = some (.cells (rowS cur i n) ty (0,0)):=by rw[← hW1];exact setRow_heap w.drew g cur _ ty _ hg
 have hoth:∀ j,W1.cell? ⟨vb,j,none⟩=w.cell? ⟨vb,j,none⟩:=fun j=>by
  rw[← hW1]
  unfold World.cell?
  rw[setRow_other w.drew g _ _ hvb];rfl
 have hcp2:∀ ty' dc,(Builtin.copy_ #[55,55] ty' #[.slice (some ⟨g,i*2,none⟩) (n+1-i) dc,.slice (some ⟨vb,voff,none⟩) 1 vc]).run Tryz.prog W1=.ok (goInt ((1:Nat):Int)) (W1.setRow g (rowN2 (rowS cur i n) i y0 y1)):=fun ty' dc =>
  run_copy_row2 W1 55 55 ty' 109 g (i*2) (n+1-i) dc ⟨vb,voff,none⟩ 1 vc 1 (rowS cur i n) ty [y0,y1] und55 siz109 hg1 (by simp only[Nat.min_def];split<;>omega) rfl (fun j v hj=>by
   rw[Addr.add_lit,hoth]
   match j,hj with
   |0,hj=>cases hj;exact hy0
   |1,hj=>cases hj;exact hy1
   |j+2,hj=>simp at hj) (by rw[rowS_size hi (by omega)];simp;omega) (fun v hv=>by
   rcases List.mem_cons.1 hv with rfl|hv
   ·exact h10
   ·rw[List.mem_singleton.1 hv];exact h11)
 rw[hW1] at hcp1 ⊢
 have mixed:Tryz.prog.follows .mixedOrders=true:=mixed
 have hw1:IntKind.i64.wrap ((i:Int)+1)=(i:Int)+1:=by rw[IntKind.wrap_i64];omega
 have hb1:(0:Int)≤(i:Int)+1:=by omega
 have hin:i≤n:=by omega
 have htn:((i:Int)+1).toNat=i+1:=by omega
 have hb2:¬ (cap=i+1):=by omega
 have hb3:(i:Int)≤(n:Int)+1:=by omega
 have hb4:¬ (cap=i):=by omega
 go_enter Tryz.func113,Tryz.ntmps113
 go_wp2_with (simp only[hov])
 go_region_law_o (refine step_copy_run rfl _ _ 55 55 rfl _ _ (by simp[Act.eval,Act.put]) (by simp[Act.eval,Act.put]) (hcp1 _ _ _) ?_)
 go_wp2_with (at_builtin;refine wpList_copy_run _ rfl _ _ 55 55 rfl _ _ rfl rfl (hcp2 _ _) ?_)
 go_ret
 exact⟨rfl,rfl⟩
def zv109:Value:=.agg #[.int .i64 0,.slice none 0 0]
theorem inf109:∃ i,Tryz.prog.info? 109=some i∧i.zero=some zv109∧i.size=2∧i.bytes=32:=by
 have h:(Tryz.prog.info? 109).map (fun i=>(i.zero,i.size,i.bytes))=some (some zv109,2,32):=by kernel_rfl
 cases hq:Tryz.prog.info? 109 with
 |none=>rw[hq] at h;cases h
 |some i =>
  rw[hq] at h
  simp only[Option.map_some,Option.some.injEq,Prod.mk.injEq] at h
  exact⟨i,rfl,h.1,h.2.1,h.2.2⟩
theorem lit_cells {P:Program} {w:World} {vb voff vc:Nat} {y0 y1:Value} (hy0:w.cell? ⟨vb,voff,none⟩=some y0) (hy1:w.cell? ⟨vb,voff+1,none⟩=some y1):(Builtin.firstCells 2 1 (.slice (some ⟨vb,voff,none⟩) 1 vc)).run P w=.ok #[y0,y1] w :=
 run_firstCells_some (P:=P) (w:=w) 2 1 ⟨vb,voff,none⟩ 1 vc [y0,y1] rfl fun j v hj=>by
  rw[Addr.add_lit]
  match j,hj with
  |0,hj=>cases hj;exact hy0
  |1,hj=>cases hj;exact hy1
  |j+2,hj=>simp at hj
theorem ins_end (w:World) (g n cap vb voff vc:Nat) (cur:Array Value) (ty:TypeId) (y0 y1:Value) (hroom:n+1≤cap) (hg:w.heap[g]? = some (.cells cur ty (0,0))) (hcc:cap*2≤cur.size)
  (hy0:w.cell? ⟨vb,voff,none⟩=some y0) (hy1:w.cell? ⟨vb,voff+1,none⟩=some y1) (h10:y0.oneCell'=true) (h11:y1.oneCell'=true) :
  Calls Tryz.prog 113 #[.slice (some ⟨g,0,none⟩) n cap,.int .i64 n,.slice (some ⟨vb,voff,none⟩) 1 vc] w fun e w' =>
   e=.returned (.slice (some ⟨g,0,none⟩) (n+1) cap)∧w'=w.setRow g (rowN2 cur n y0 y1):=by
 obtain⟨i0,hi0,hz0,hzs,hzb⟩:=inf109
 have hrun:∀ ty',(Builtin.append_ #[55,55] ty' #[.slice (some ⟨g,0,none⟩) n cap,.slice (some ⟨vb,voff,none⟩) 1 vc]).run Tryz.prog w=.ok (.slice (some ⟨g,0,none⟩) (n+1) cap) (w.setRow g (rowN2 cur n y0 y1)):=fun ty' =>
  run_append_here (P:=Tryz.prog) (w:=w) 55 55 ty' 109 i0 und55 109 und55 hi0 (some ⟨g,0,none⟩) n cap 1 (.slice (some ⟨vb,voff,none⟩) 1 vc) #[y0,y1] rfl (by rw[hzs];exact lit_cells hy0 hy1) hroom _ (by
   rw[hzs]
   show (storeCells ((⟨g,0,none⟩:Addr).add (n*2)) [y0,y1]).run Tryz.prog w=_
   rw[Addr.add_lit,Nat.zero_add]
   have:=run_storeCells_at Tryz.prog g (n*2) ty [y0,y1] 0 cur w hg (by simp;omega) (fun v hv=>by
    rcases List.mem_cons.1 hv with rfl|hv
    ·exact h10
    ·rw[List.mem_singleton.1 hv];exact h11)
   simpa [rowN2] using this)
 go_enter Tryz.func113,Tryz.ntmps113
 go_wp2_with (at_builtin;refine Lib.wpList_append_run _ rfl _ _ _ _ rfl _ _ rfl rfl _ _ (hrun _) ?_)
 all_goals (go_ret;exact⟨rfl,rfl⟩)
theorem ins_endg (w:World) (ad:Option Addr) (n cap vb voff vc:Nat) (olds:List Value) (y0 y1:Value) (hn:n≤1000) (hcap:cap<n+1) (hnc:n≤cap)
  (hold:∀ W:World,W.heap=w.heap→(Builtin.firstCells 2 n (.slice ad n cap)).run Tryz.prog W=.ok olds.toArray W)
  (hy0:w.cell? ⟨vb,voff,none⟩=some y0) (hy1:w.cell? ⟨vb,voff+1,none⟩=some y1) :
  Calls Tryz.prog 113 #[.slice ad n cap,.int .i64 n,.slice (some ⟨vb,voff,none⟩) 1 vc] w fun e w' =>
   e=.returned (.slice (some ⟨w.heap.size,0,none⟩) (n+1) (grownCap w (n+1) cap 109))∧w'=w.drew.alloc (.cells (olds.toArray ++ #[y0,y1]++Builtin.zeroCells zv109.cells (grownCap w (n+1) cap 109-(n+1))) 109):=by
 obtain⟨i0,hi0,hz0,hzs,hzb⟩:=inf109
 have hrun:∀ ty',(Builtin.append_ #[55,55] ty' #[.slice ad n cap,.slice (some ⟨vb,voff,none⟩) 1 vc]).run Tryz.prog w=_:=fun ty' =>
  run_append_more (P:=Tryz.prog) (w:=w) 55 55 ty' 109 i0 zv109 und55 109 und55 hi0 hz0 ad n cap 1 (.slice (some ⟨vb,voff,none⟩) 1 vc) olds.toArray #[y0,y1] rfl (by rw[hzs];exact hold w.drew rfl) (by rw[hzs];exact lit_cells (w:=w.drew) hy0 hy1) hcap (by omega) (by rw[hzb];exact growslice_fits hcap (by omega))
 generalize olds.toArray ++ #[y0,y1]++Builtin.zeroCells zv109.cells (grownCap w (n+1) cap 109-(n+1))=Z at hrun ⊢
 go_enter Tryz.func113,Tryz.ntmps113
 cases ad with
 |none =>
  go_wp2_with (at_builtin;refine Lib.wpList_append_run _ rfl _ _ _ _ rfl _ _ rfl rfl _ _ (hrun _) ?_)
  all_goals (go_ret;exact⟨rfl,rfl⟩)
 |some a =>
  obtain⟨ab,ao,asp⟩:=a
  go_wp2_with (at_builtin;refine Lib.wpList_append_run _ rfl _ _ _ _ rfl _ _ rfl rfl _ _ (hrun _) ?_)
  all_goals (go_ret;exact⟨rfl,rfl⟩)
theorem zc_size (k:Nat):(Builtin.zeroCells zv109.cells k).size=k*2:=by
 rw[size_zeroCells];rfl
theorem ins_grow (w:World) (g n cap i vb voff vc:Nat) (cur:Array Value) (ty:TypeId) (y0 y1:Value) (hi:i<n) (hn:n≤1000) (hcap:cap<n+1) (hnc:n≤cap) (hg:w.heap[g]? = some (.cells cur ty (0,0))) (hcc:cap*2≤cur.size)
  (hvs:vb<w.heap.size) (hy0:w.cell? ⟨vb,voff,none⟩=some y0) (hy1:w.cell? ⟨vb,voff+1,none⟩=some y1) (h10:y0.oneCell'=true) (h11:y1.oneCell'=true) (h1c:∀ v∈(cur.toList.drop (i*2)).take ((n-i)*2),v.oneCell'=true) :
  Calls Tryz.prog 113 #[.slice (some ⟨g,0,none⟩) n cap,.int .i64 i,.slice (some ⟨vb,voff,none⟩) 1 vc] w fun e w' =>
   e=.returned (.slice (some ⟨w.heap.size,0,none⟩) (n+1) (grownCap w (n+1) cap 109))∧∃ (Z:Array Value) (W:World),(n+1)*2≤Z.size∧Z.size=grownCap w (n+1) cap 109*2∧Z.toList.take (i*2)=cur.toList.take (i*2) ∧
    W=(w.alloc (.cells Z 109)).drew∧w'=((W.setRow w.heap.size (rowN2 Z i y0 y1)).drew).setRow w.heap.size ((rowN2 Z i y0 y1).toList.take ((i+1)*2)++(cur.toList.drop (i*2)).take ((n-i)*2)++(rowN2 Z i y0 y1).toList.drop ((i+1)*2+((cur.toList.drop (i*2)).take ((n-i)*2)).length)).toArray:=by
 obtain⟨i0,hi0,hz0,hzs,hzb⟩:=inf109
 have hgb:g<w.heap.size:=by
  apply Classical.byContradiction
  intro q
  rw[Array.getElem?_eq_none (by omega)] at hg
  cases hg
 have hrz:∀ ty',(Builtin.append_ #[55,3] ty' #[.slice (some ⟨g,0,none⟩) i cap,.int .i64 ((n:Int)+1-(i:Int))]).run Tryz.prog w =
   .ok (.slice (some ⟨w.heap.size,0,none⟩) (n+1) (grownCap w (n+1) cap 109)) (w.drew.alloc (.cells ((cur.toList.take (i*2)).toArray++Builtin.zeroCells zv109.cells (n+1-i)++Builtin.zeroCells zv109.cells (grownCap w (n+1) cap 109-(n+1))) 109)):=fun ty'=>by
  have hik:i+(n+1-i)=n+1:=by omega
  have h:=Lib.run_append_grow_zeros (P:=Tryz.prog) w 55 3 ty' 109 i0 zv109 .i64 .i64 und55 (by kernel_rfl) hi0 hz0 (some ⟨g,0,none⟩) i cap (cur.toList.take (i*2)) (by
   rw[hzs]
   refine run_firstCells_some (P:=Tryz.prog) (w:=w.drew) 2 i ⟨g,0,none⟩ i cap (cur.toList.take (i*2)) (by simp;omega) fun j v hj => ?_
   have:=cells_run (w:=w.drew) (g:=g) (o:=0) (cur:=cur) hg (k:=i*2) j v (by rw[List.drop_zero];exact hj)
   exact this) (n+1-i) (by omega) (by omega) (by omega) (by omega) (by rw[hzb];omega) (by rw[hzb,hik];exact growslice_fits hcap (by omega))
  rw[hik] at h
  rw[show (n:Int)+1-(i:Int)=((n+1-i:Nat):Int) by omega]
  exact h
 have hG:=grown_ge (w:=w) (n+1) cap 109
 obtain⟨Z,hZ⟩:∃ Z,(cur.toList.take (i*2)).toArray++Builtin.zeroCells zv109.cells (n+1-i)++Builtin.zeroCells zv109.cells (grownCap w (n+1) cap 109-(n+1))=Z:=⟨_,rfl⟩
 have hZ1:Z.size=grownCap w (n+1) cap 109*2:=by
  rw[← hZ]
  simp[zc_size]
  omega
 have hZ2:Z.toList.take (i*2)=cur.toList.take (i*2):=by
  rw[← hZ]
  simp only[Array.toList_append,List.append_assoc]
  rw[List.take_append_of_le_length (by simp;omega),List.take_take,Nat.min_self]
 rw[hZ] at hrz
 generalize grownCap w (n+1) cap 109=G at hrz hG hZ1 ⊢
 obtain⟨S,hS⟩:∃ S,w.heap.size=S:=⟨_,rfl⟩
 rw[hS] at hrz ⊢ hgb hvs
 have hgS:∀ (W:World) (R:Array Value),W.heap=((w.drew.alloc (.cells Z 109)).setRow S R).heap→W.heap[S]? = some (.cells R 109 (0,0))∧(∀ b,b<S→W.heap[b]? = w.heap[b]?):=fun W R hW=>by
  rw[hW]
  have h0:(w.drew.alloc (.cells Z 109)).heap[S]? = some (.cells Z 109 (0,0)):=by rw[← hS];exact heap_push_new w.drew _
  refine⟨setRow_heap _ S Z R _ _ h0,fun b hb => ?_⟩
  rw[setRow_other _ _ _ _ (by omega)]
  exact heap_push_old w.drew _ (by rw[← hS] at hb;exact hb)
 have hZ3:(n+1)*2≤Z.size:=by omega
 have hN:(rowN2 Z i y0 y1).size=Z.size:=by simp[rowN2];omega
 have hcpA:∀ (W:World),W.heap=((w.drew.alloc (.cells Z 109)).setRow S Z).heap→∀ ty' dc,(Builtin.copy_ #[55,55] ty' #[.slice (some ⟨S,i*2,none⟩) (n+1-i) dc,.slice (some ⟨vb,voff,none⟩) 1 vc]).run Tryz.prog W=.ok (goInt ((1:Nat):Int)) (W.setRow S (rowN2 Z i y0 y1)):=fun W hW ty' dc=>by
  obtain⟨k1,k2⟩:=hgS W Z hW
  refine run_copy_row2 W 55 55 ty' 109 S (i*2) (n+1-i) dc ⟨vb,voff,none⟩ 1 vc 1 Z _ [y0,y1] und55 siz109 k1 (by simp only[Nat.min_def];split<;>omega) rfl (fun j v hj => ?_) (by simp;omega) (fun v hv=>by
   rcases List.mem_cons.1 hv with rfl|hv
   ·exact h10
   ·rw[List.mem_singleton.1 hv];exact h11)
  rw[Addr.add_lit]
  have hc:∀ j,W.cell? ⟨vb,j,none⟩=w.cell? ⟨vb,j,none⟩:=fun j=>by
   unfold World.cell?
   rw[k2 vb hvs]
  rw[hc]
  match j,hj with
  |0,hj=>cases hj;exact hy0
  |1,hj=>cases hj;exact hy1
  |j+2,hj=>simp at hj
 have hcpB:∀ (W:World),W.heap=((w.drew.alloc (.cells Z 109)).setRow S (rowN2 Z i y0 y1)).heap→∀ ty' dc sc,(Builtin.copy_ #[55,55] ty' #[.slice (some ⟨S,(i+1)*2,none⟩) (n-i) dc,.slice (some ⟨g,i*2,none⟩) (n-i) sc]).run Tryz.prog W=.ok (goInt ((n-i:Nat):Int)) (W.setRow S ((rowN2 Z i y0 y1).toList.take ((i+1)*2)++(cur.toList.drop (i*2)).take ((n-i)*2)++(rowN2 Z i y0 y1).toList.drop ((i+1)*2+((cur.toList.drop (i*2)).take ((n-i)*2)).length)).toArray):=fun W hW ty' dc sc=>by
  obtain⟨k1,k2⟩:=hgS W _ hW
  refine run_copy_row2 W 55 55 ty' 109 S ((i+1)*2) (n-i) dc ⟨g,i*2,none⟩ (n-i) sc (n-i) (rowN2 Z i y0 y1) _ _ und55 siz109 k1 (by simp) (by simp;omega) (cells_run (by rw[k2 g hgb];exact hg)) (by rw[hN];simp;omega) h1c
 obtain⟨R2,hR2⟩:∃ R2,((rowN2 Z i y0 y1).toList.take ((i+1)*2)++(cur.toList.drop (i*2)).take ((n-i)*2)++(rowN2 Z i y0 y1).toList.drop ((i+1)*2+((cur.toList.drop (i*2)).take ((n-i)*2)).length)).toArray=R2:=⟨_,rfl⟩
 rw[hR2] at hcpB
 have h0:((w.drew.alloc (.cells Z 109)).setRow S Z).heap=(w.drew.alloc (.cells Z 109)).heap:=by
  rw[setRow_self _ _ _ _ _ (by rw[← hS];exact heap_push_new w.drew _)]
 rw[h0] at hcpA
 clear hZ hgS h0
 have hw1:IntKind.i64.wrap ((i:Int)+1)=(i:Int)+1:=by rw[IntKind.wrap_i64];omega
 have hb1:(0:Int)≤(i:Int)+1:=by omega
 have hin:i≤n:=by omega
 have htn:((i:Int)+1).toNat=i+1:=by omega
 have hb3:(i:Int)≤(n:Int):=by omega
 have hz3:(cap:Int)<(n:Int)+1:=by omega
 have hci:¬ (cap=i):=by omega
 have hGi:¬ (G=i):=by omega
 have hGim:¬ (G=i+1):=by omega
 have mixed:Tryz.prog.follows .mixedOrders=true:=mixed
 go_enter Tryz.func113,Tryz.ntmps113
 have hcpA1:=hcpA (w.alloc (.cells Z 109)).drew rfl
 obtain⟨W1,hW1⟩:∃ W1,(w.alloc (.cells Z 109)).drew.setRow S (rowN2 Z i y0 y1)=W1:=⟨_,rfl⟩
 have hcpB1:=hcpB W1.drew (by rw[← hW1];rfl)
 rw[hW1] at hcpA1
 clear hcpA hcpB
 go_wp2_with (at_builtin;refine Lib.wpList_append_run _ rfl _ _ _ _ rfl _ _ rfl rfl _ _ (hrz _) ?_)
 go_region_law_o (refine step_copy_run rfl _ _ 55 55 rfl _ _ (by simp[Act.eval,Act.put]) (by simp[Act.eval,Act.put]) (hcpB1 _ _ _) ?_)
 go_wp2
 go_ret
 exact⟨rfl,Z,_,hZ3,hZ1,hZ2,rfl,by rw[hR2,hW1]⟩
set_option maxHeartbeats 4000000
def InsPost (w w':World) (g n cap:Nat) (new:List Value) (e:Ending):Prop :=
 ∃ g' cap' row ty' rest,e=.returned (.slice (some ⟨g',0,none⟩) (n+1) cap')∧w'.heap[g']? = some (.cells row ty' (0,0))∧row.toList=new++rest∧n+1≤cap'∧cap'*2≤row.size ∧
  w'.os=w.os∧w'.tape=w.tape∧w'.output=w.output∧w.heap.size≤w'.heap.size ∧
  ((g'=g∧cap'=cap∧∀ b,b≠g→w'.heap[b]? = w.heap[b]?)∨(w.heap.size≤g'∧∀ b,b<w.heap.size→w'.heap[b]? = w.heap[b]?))
def newL (A:List Value) (i n:Nat) (y0 y1:Value):List Value:=A.take (i*2)++[y0,y1]++(A.drop (i*2)).take ((n-i)*2)
theorem rowN2_list {R:Array Value} {i:Nat} {y0 y1:Value}:(rowN2 R i y0 y1).toList=R.toList.take (i*2)++[y0,y1]++R.toList.drop (i*2+2):=rfl
theorem shift_list {cur:Array Value} {i n:Nat} {y0 y1:Value} (hi:i<n) (hc:(n+1)*2≤cur.size):∃ rest,(rowN2 (rowS cur i n) i y0 y1).toList=newL cur.toList i n y0 y1++rest:=by
 have hl:cur.toList.length=cur.size:=Array.length_toList
 rw[rowN2_list,rowS,newL]
 generalize cur.toList=A at hl
 refine⟨A.drop ((i+1)*2+((A.drop (i*2)).take ((n-i)*2)).length),?_⟩
 have h1:(A.take ((i+1)*2)).length=(i+1)*2:=by rw[List.length_take];omega
 simp only
 rw[List.append_assoc (A.take ((i+1)*2)),List.take_append_of_le_length (by omega),List.take_take,Nat.min_eq_left (by omega),List.drop_append_of_le_length (by omega),show (A.take ((i+1)*2)).drop (i*2+2)=[] from List.drop_eq_nil_of_le (by omega)]
 simp
theorem grow_list {cur Z:Array Value} {i n:Nat} {y0 y1:Value} (hi:i<n) (hZ:(n+1)*2≤Z.size) (h:Z.toList.take (i*2)=cur.toList.take (i*2)):∃ rest,((rowN2 Z i y0 y1).toList.take ((i+1)*2)++(cur.toList.drop (i*2)).take ((n-i)*2)++(rowN2 Z i y0 y1).toList.drop ((i+1)*2+((cur.toList.drop (i*2)).take ((n-i)*2)).length))=newL cur.toList i n y0 y1++rest:=by
 refine⟨(rowN2 Z i y0 y1).toList.drop ((i+1)*2+((cur.toList.drop (i*2)).take ((n-i)*2)).length),?_⟩
 rw[newL]
 congr 2
 rw[rowN2_list,← h]
 have hl:Z.toList.length=Z.size:=Array.length_toList
 have h1:(Z.toList.take (i*2)++[y0,y1]).length=(i+1)*2:=by
  rw[List.length_append,List.length_take]
  show min (i*2) Z.toList.length+2=_
  omega
 rw[List.take_append_of_le_length (by omega),List.take_of_length_le (by omega)]
theorem ins_own (w:World) (g n cap i vb voff vc:Nat) (cur:Array Value) (ty:TypeId) (y0 y1:Value) (hi:i≤n) (hn:n≤1000) (hnc:n≤cap) (hvb:vb≠g) (hg:w.heap[g]? = some (.cells cur ty (0,0))) (hcc:cap*2≤cur.size)
  (hvs:vb<w.heap.size) (hy0:w.cell? ⟨vb,voff,none⟩=some y0) (hy1:w.cell? ⟨vb,voff+1,none⟩=some y1) (h10:y0.oneCell'=true) (h11:y1.oneCell'=true) (h1c:∀ v∈(cur.toList.drop (i*2)).take ((n-i)*2),v.oneCell'=true) :
  Calls Tryz.prog 113 #[.slice (some ⟨g,0,none⟩) n cap,.int .i64 i,.slice (some ⟨vb,voff,none⟩) 1 vc] w fun e w'=>InsPost w w' g n cap (newL cur.toList i n y0 y1) e:=by
 by_cases hin:i<n
 ·by_cases hroom:n+1≤cap
  ·refine (ins_shift w g n cap i vb voff vc cur ty y0 y1 hin hn hroom hvb hg hcc hy0 hy1 h10 h11 h1c).mono fun e w' h => ?_
   obtain⟨rfl,rfl⟩:=h
   obtain⟨rest,hr⟩:=shift_list (y0:=y0) (y1:=y1) hin (show (n+1)*2≤cur.size by omega)
   have hg1:=setRow_heap w.drew g cur (rowS cur i n) ty _ hg
   refine⟨g,cap,_,ty,rest,rfl,setRow_heap _ g _ _ ty _ hg1,hr,hroom,?_,rfl,rfl,rfl,by simp,.inl ⟨rfl,rfl,fun b hb => ?_⟩⟩
   ·simp[rowN2,rowS];omega
   ·rw[setRow_other _ _ _ _ hb,setRow_other _ _ _ _ hb];rfl
  ·refine (ins_grow w g n cap i vb voff vc cur ty y0 y1 hin hn (by omega) hnc hg hcc hvs hy0 hy1 h10 h11 h1c).mono fun e w' h => ?_
   obtain⟨rfl,Z,W,h1,h2,h3,rfl,rfl⟩:=h
   obtain⟨rest,hr⟩:=grow_list (y0:=y0) (y1:=y1) hin h1 h3
   have hG:=grown_ge (w:=w) (n+1) cap 109
   have hg0:((w.alloc (.cells Z 109)).drew).heap[w.heap.size]? = some (.cells Z 109 (0,0)):=heap_push_new w _
   have hg1:=setRow_heap _ w.heap.size Z (rowN2 Z i y0 y1) _ _ hg0
   refine⟨w.heap.size,_,_,_,rest,rfl,setRow_heap _ _ _ _ _ _ hg1,hr,hG,?_,rfl,rfl,rfl,?_,.inr ⟨Nat.le_refl _,fun b hb => ?_⟩⟩
   ·have hl:=congrArg List.length hr
    simp[rowN2] at hl ⊢
    omega
   ·simp
   ·rw[setRow_other _ _ _ _ (by omega)]
    show (((w.alloc (.cells Z 109)).drew).setRow w.heap.size (rowN2 Z i y0 y1)).heap[b]? = _
    rw[setRow_other _ _ _ _ (by omega)]
    exact heap_push_old w _ hb
 ·obtain rfl:i=n:=by omega
  have hnew:newL cur.toList i i y0 y1=cur.toList.take (i*2)++[y0,y1]:=by rw[newL,Nat.sub_self,Nat.zero_mul,List.take_zero,List.append_nil]
  rw[hnew]
  by_cases hroom:i+1≤cap
  ·refine (ins_end w g i cap vb voff vc cur ty y0 y1 hroom hg hcc hy0 hy1 h10 h11).mono fun e w' h => ?_
   obtain⟨rfl,rfl⟩:=h
   refine⟨g,cap,_,ty,_,rfl,setRow_heap w g cur _ ty _ hg,rowN2_list,hroom,?_,rfl,rfl,rfl,by simp,.inl ⟨rfl,rfl,fun b hb=>setRow_other _ _ _ _ hb⟩⟩
   simp[rowN2];omega
  ·refine (ins_endg w (some ⟨g,0,none⟩) i cap vb voff vc (cur.toList.take (i*2)) y0 y1 hn (by omega) hnc (fun W hW=>run_firstCells_some (P:=Tryz.prog) (w:=W) 2 i ⟨g,0,none⟩ i cap _ (by simp;omega) fun j v hj => ?_) hy0 hy1).mono fun e w' h => ?_
   ·exact cells_run (w:=W) (g:=g) (o:=0) (cur:=cur) (by rw[hW];exact hg) (k:=i*2) j v (by rw[List.drop_zero];exact hj)
   ·obtain⟨rfl,rfl⟩:=h
    have hG:=grown_ge (w:=w) (i+1) cap 109
    refine⟨w.heap.size,_,_,_,_,rfl,heap_push_new w.drew _,by simp only[Array.toList_append];rfl,hG,?_,rfl,rfl,rfl,by simp,.inr ⟨Nat.le_refl _,fun b hb=>heap_push_old w.drew _ hb⟩⟩
    simp[zc_size];omega
theorem ins_none (w:World) (g:Nat) (ad:Option Addr) (vb voff vc:Nat) (y0 y1:Value) (hy0:w.cell? ⟨vb,voff,none⟩=some y0) (hy1:w.cell? ⟨vb,voff+1,none⟩=some y1) :
  Calls Tryz.prog 113 #[.slice ad 0 0,.int .i64 (0:Nat),.slice (some ⟨vb,voff,none⟩) 1 vc] w fun e w'=>InsPost w w' g 0 0 [y0,y1] e:=by
 refine (ins_endg w ad 0 0 vb voff vc [] y0 y1 (by decide) (by decide) (by decide) (fun W hW => ?_) hy0 hy1).mono fun e w' h => ?_
 ·cases ad with
  |none=>exact run_firstCells_none (P:=Tryz.prog) (w:=W) 2 0 0 0
  |some a=>exact run_firstCells_some (P:=Tryz.prog) (w:=W) 2 0 a 0 0 [] rfl fun j v hj=>by simp at hj
 ·obtain⟨rfl,rfl⟩:=h
  have hG:=grown_ge (w:=w) (0+1) 0 109
  refine⟨w.heap.size,_,_,_,_,rfl,heap_push_new w.drew _,by simp only[Array.toList_append];rfl,hG,?_,rfl,rfl,rfl,by simp,.inr ⟨Nat.le_refl _,fun b hb=>heap_push_old w.drew _ hb⟩⟩
  simp[zc_size];omega
theorem new_cells {es:List PV} {A:List Value} {y:PV} {i:Nat} {y0 y1:Value} {R:PV→Value→Prop} (hi:i≤es.length) (hA:es.length*2≤A.length) (hes:∀ p,p∈es→p.cells.length=2)
  (hr:∀ (k:Nat) p (j:Nat) q,es[k]? = some p→p.cells[j]? = some q→∃ v,A[k*2+j]? = some v∧R q v) (hyl:y.cells.length=2) (hy0:∀ q,y.cells[0]? = some q→R q y0) (hy1:∀ q,y.cells[1]? = some q→R q y1) :
  ∀ (k:Nat) p (j:Nat) q,(es.take i++y::es.drop i)[k]? = some p→p.cells[j]? = some q→∃ v,(newL A i es.length y0 y1)[k*2+j]? = some v∧R q v:=by
 intro k p j q hp hq
 have l1:(A.take (i*2)).length=i*2:=by rw[List.length_take];omega
 have lt:(es.take i).length=i:=by rw[List.length_take];omega
 have hj:j<2:=by
  have hpl:p.cells.length=2:=by
   rcases List.mem_append.1 (List.mem_iff_getElem?.2 ⟨k,hp⟩) with h|h
   ·exact hes p (List.mem_of_mem_take h)
   ·rcases List.mem_cons.1 h with rfl|h
    ·exact hyl
    ·exact hes p (List.mem_of_mem_drop h)
  rw[← hpl]
  exact (List.getElem?_eq_some_iff.1 hq).1
 rw[newL,List.append_assoc]
 rcases Nat.lt_trichotomy k i with h|h|h
 ·rw[List.getElem?_append_left (by omega),List.getElem?_take,if_pos h] at hp
  obtain⟨v,h1,h2⟩:=hr k p j q hp hq
  refine⟨v,?_,h2⟩
  rw[List.getElem?_append_left (by omega),List.getElem?_take,if_pos (by omega)]
  exact h1
 ·subst h
  rw[List.getElem?_append_right (by omega),lt,Nat.sub_self] at hp
  cases hp
  rw[List.getElem?_append_right (by omega),l1,show k*2+j-k*2=j by omega]
  match j,hj with
  |0,_=>exact⟨y0,rfl,hy0 q hq⟩
  |1,_=>exact⟨y1,rfl,hy1 q hq⟩
 ·rw[List.getElem?_append_right (by omega),lt] at hp
  obtain⟨d,rfl⟩:∃ d,k=i+1+d:=⟨k-(i+1),by omega⟩
  rw[show i+1+d-i=d+1 by omega,List.getElem?_cons_succ,List.getElem?_drop] at hp
  obtain⟨v,h1,h2⟩:=hr (i+d) p j q hp hq
  have hlt:i+d<es.length:=(List.getElem?_eq_some_iff.1 hp).1
  refine⟨v,?_,h2⟩
  rw[List.getElem?_append_right (by omega),l1,List.getElem?_append_right (by simp;omega)]
  simp only[List.length_cons,List.length_nil]
  rw[show (i+1+d)*2+j-i*2-(0+1+1)=d*2+j by omega,List.getElem?_take,if_pos (by omega),List.getElem?_drop,show i*2+(d*2+j)=(i+d)*2+j by omega]
  exact h1
theorem ins_DC {M:Nat→Prop} {w0:W0} {L:DH} {K:DV→DH→Prop} (k i:Nat) (es:List PV) (y:PV) (hk:L.get k=some (.arr 2 es)) (hi:i≤es.length) (h8:es.length≤900) (hlo:L.lo≤k) (hyl:y.cells.length=2) (hyo:y.cells.all PV.one=true) (heo:∀ p,p∈es→p.cells.all PV.one=true)
  (hK:K (.buf k (es.length+1)) (L.put k (.arr 2 (es.take i++y::es.drop i)))) :
  DC Tryz.prog M w0 113 [.buf k es.length,.pv (i64 i),.pv (.sl [y])] L K:=by
 refine DC.mk ⟨by kernel_rfl,fun μ w vs hr hu hrel => ?_⟩
 obtain⟨v0,v1,v2,rfl⟩:∃ v0 v1 v2,vs=[v0,v1,v2]:=by
  have:=hrel.1
  match vs,this with
  | [a,b,c],_=>exact⟨a,b,c,rfl⟩
 have r0:=hrel.2 0 _ v0 rfl rfl
 have r1:=hrel.2 1 _ v1 rfl rfl
 have r2:=hrel.2 2 _ v2 rfl rfl
 have hkn:=(hr.keys k _ hk).1
 have hbuf:bufVal (μ k) es.length v0:=by
  cases r0 with
  |buf _ _ _ g1 g2 g3=>exact (g2 _ es hk).2 rfl
 obtain rfl:v1=.int .i64 (i:Nat):=by
  cases r1 with
  |pv _ _ h=>cases h;rfl
 obtain⟨vb,voff,vc,val,rfl,hvT,hvs,hvc,hvr⟩:∃ vb voff vc,∃ val:Nat→Value,v2=.slice (some ⟨vb,voff,none⟩) 1 vc∧¬ Tot M μ L vb∧vb<w.heap.size∧(∀ j q,y.cells[j]? = some q→w.cell? ⟨vb,voff+j,none⟩=some (val j))∧∀ j q,y.cells[j]? = some q→RelP (Tot M μ L) w q (val j):=by
  cases r2 with
  |pv _ _ h =>
   generalize hlx:PV.sl [y]=pl at h
   cases h with
   |e0 a c=>cases hlx
   |sl b off sz cap l val g1 g2 g3 g4 g5 g6 =>
    cases hlx
    refine⟨b,off,cap,val 0,rfl,g1,g2,fun j q hq => ?_,fun j q hq=>g6 0 y j q rfl hq⟩
    have:=g5 0 y j q rfl hq
    rw[Nat.zero_mul,Nat.add_zero] at this
    exact this
   |_=>cases hlx
 obtain⟨q0,hq0⟩:∃ q,y.cells[0]? = some q:=⟨_,List.getElem?_eq_getElem (by omega)⟩
 obtain⟨q1,hq1⟩:∃ q,y.cells[1]? = some q:=⟨_,List.getElem?_eq_getElem (by omega)⟩
 have c0:=hvc 0 q0 hq0
 have c1:=hvc 1 q1 hq1
 have p0:=hvr 0 q0 hq0
 have p1:=hvr 1 q1 hq1
 have o0:=one_valP p0 (List.all_eq_true.1 hyo q0 (List.mem_iff_getElem?.2 ⟨0,hq0⟩))
 have o1:=one_valP p1 (List.all_eq_true.1 hyo q1 (List.mem_iff_getElem?.2 ⟨1,hq1⟩))
 rw[Nat.add_zero] at c0
 have hecl:∀ p,p∈es→p.cells.length=2:=fun p hp=>by
  obtain⟨j,hj⟩:=List.mem_iff_getElem?.1 hp
  exact (arr_cells hr hk hj).2.1
 have hacl:∀ p,p∈es.take i++y::es.drop i→p.cells.length=2:=fun p hp=>by
  rcases List.mem_append.1 hp with h|h
  ·exact hecl p (List.mem_of_mem_take h)
  ·rcases List.mem_cons.1 h with rfl|h
   ·exact hyl
   ·exact hecl p (List.mem_of_mem_drop h)
 have hlen:(es.take i++y::es.drop i).length=es.length+1:=by simp;omega
 have fin:∀ (A:List Value) (e:Ending) (w':World),es.length*2≤A.length→(∀ (k:Nat) p (j:Nat) q,es[k]? = some p→p.cells[j]? = some q→∃ v,A[k*2+j]? = some v∧RelP (Tot M μ L) w q v) →
   InsPost w w' (μ k).blk es.length (μ k).cap (newL A i es.length (val 0) (val 1)) e→Go.Dv.Fin M w0 μ L w K e w':=by
  intro A e w' hA hrA hp
  obtain⟨g',cap',row,ty',rest,rfl,hg',hrow,hcap,hsz,hos,htape,hout,hsize,hcase⟩:=hp
  have hgs:g'<w'.heap.size:=by
   apply Classical.byContradiction
   intro q
   rw[Array.getElem?_eq_none (by omega)] at hg'
   cases hg'
  have hlk:g'=(μ k).blk∧cap'=(μ k).cap→(μ k).cap≠0:=fun h=>by omega
  have hliv:(μ k).cap≠0→liveAt (μ k) (.arr 2 es):=fun h=>h
  obtain⟨hs,hr'⟩:=hr.upd (L':=L.put k (.arr 2 (es.take i++y::es.drop i))) (w':=w') k (.arr 2 (es.take i++y::es.drop i)) ⟨g',cap'⟩ (DH.put_same L k _) (fun j hj=>DH.put_ne L _ hj) (Nat.le_refl _) rfl rfl hkn rfl hos htape hout hsize
   (fun b hb hW=>by
    rcases hcase with⟨e1,e2,h⟩|⟨_,h⟩
    ·exact h b fun e=>hW ⟨k,_,hlo,hk,hliv (hlk ⟨e1,e2⟩),e.symm⟩
    ·exact h b hb)
   (fun j o hj hjo hl=>by
    rcases hcase with⟨e1,e2,h⟩|⟨_,h⟩
    ·exact h _ fun e=>hj (hr.inj j o k _ hjo hl hk (hliv (hlk ⟨e1,e2⟩)) e)
    ·exact h _ (hr.live j o hjo hl).1)
   (fun _=>by
    rcases hcase with⟨e1,e2,_⟩|⟨h,_⟩
    ·exact .inl ⟨hkn,⟨_,hk,hliv (hlk ⟨e1,e2⟩)⟩,e1⟩
    ·exact .inr ⟨h,hgs⟩)
   (fun _=>⟨(fun _ e=>by cases e),(fun _ e=>by cases e),(fun _ _ e=>by
    cases e
    exact⟨es,hk,.inl (by rw[hlen];omega)⟩),(fun _ e=>by cases e)⟩)
   (fun hs=>by
    refine .inr ⟨row,ty',by rw[updμ_same];show cap'≠0;omega,by rw[updμ_same];exact hg',by rw[updμ_same,hlen];exact hcap,by rw[updμ_same];exact hsz,hacl,fun k' p j q hp hq => ?_⟩
    obtain⟨v,h1,h2⟩:=new_cells (R:=RelP (Tot M μ L) w) hi hA hecl hrA hyl (fun q hq=>by rw[hq0] at hq;cases hq;exact p0) (fun q hq=>by rw[hq1] at hq;cases hq;exact p1) k' p j q hp hq
    refine⟨v,?_,h2.stp hs⟩
    rw[← Array.getElem?_toList,hrow,List.getElem?_append_left (List.getElem?_eq_some_iff.1 h1).1]
    exact h1)
  refine .inl ⟨_,rfl,_,_,_,hK,hr',?_,?_,hs⟩
  ·refine .buf _ _ _ ⟨_,_,rfl,fun _=>rfl⟩ (fun sz' es' hk' => ?_) (fun es' hk' => ?_)
   ·rw[DH.put_same] at hk'
    cases hk'
    refine⟨by rw[hlen];exact Nat.le_refl _,fun _ => ?_⟩
    rw[updμ_same]
    exact .inr ⟨by show cap'≠0;omega,rfl⟩
   ·rw[DH.put_same] at hk';cases hk'
  ·simpa [DV.under,DH.put,Nat.blt_eq] using hkn
 rcases hbuf with⟨hc0,h0,ad,rfl⟩|⟨hc0,rfl⟩
 ·have hes:es=[]:=List.length_eq_zero_iff.1 h0
  subst hes
  obtain rfl:i=0:=by simpa using hi
  refine (ins_none w (μ k).blk ad vb voff vc (val 0) (val 1) c0 c1).mono fun e w' h=>fin [] e w' (by simp) (fun k p j q hp _=>by simp at hp) ?_
  rw[hc0]
  exact h
 ·rcases hr.obj k _ hk with⟨g0,_⟩|⟨cur,ty,g0,g1,g2,g3,g4,g5⟩
  ·exact absurd g0 hc0
  ·have hvb:vb≠(μ k).blk:=fun e=>hvT (e▸.inr ⟨k,_,hk,hc0,rfl⟩)
   refine (ins_own w (μ k).blk es.length (μ k).cap i vb voff vc cur ty (val 0) (val 1) hi (by omega) g2 hvb g1 g3 hvs c0 c1 o0 o1 fun v hv => ?_).mono fun e w' h=>fin cur.toList e w' (by
    have h1:=Nat.mul_le_mul_right 2 g2
    have h2:cur.toList.length=cur.size:=Array.length_toList
    rw[h2]
    exact Nat.le_trans h1 g3) (fun k p j q hp hq=>by
    obtain⟨v,h1,h2⟩:=g5 k p j q hp hq
    exact⟨v,by simpa using h1,h2⟩) h
   obtain⟨m,hm⟩:=List.mem_iff_getElem?.1 hv
   rw[List.getElem?_take] at hm
   split at hm
   ·rw[List.getElem?_drop] at hm
    have hml:(i*2+m) / 2<es.length:=by omega
    have hp:es[(i*2+m) / 2]? = some es[(i*2+m) / 2]:=List.getElem?_eq_getElem hml
    have hpl:=g4 _ (List.getElem_mem hml)
    have hq:(es[(i*2+m) / 2]).cells[(i*2+m) % 2]? = some ((es[(i*2+m) / 2]).cells[(i*2+m) % 2]'(by omega)):=List.getElem?_eq_getElem (by omega)
    obtain⟨u,h1,h2⟩:=g5 _ _ _ _ hp hq
    rw[show (i*2+m) / 2*2+(i*2+m) % 2=i*2+m by omega] at h1
    rw[Array.getElem?_toList,h1] at hm
    cases hm
    exact one_valP h2 (List.all_eq_true.1 (heo _ (List.getElem_mem hml)) _ (List.getElem_mem _))
   ·cases hm
theorem ins_ok (M:Nat→Prop) (w0:W0):InsOk M w0:=by
 intro a l x y i base K hi h8 hK
 have hK:K (.buf 1 ((l.take i++y::l.drop i).map Asg.pv).length) ((⟨3,0,base,objsOf (HY a l x)⟩:DH).put 1 (.arr 2 ((l.map Asg.pv).take i++y.pv::(l.map Asg.pv).drop i))):=by
  have e:(l.map Asg.pv).take i++y.pv::(l.map Asg.pv).drop i=(l.take i++y::l.drop i).map Asg.pv:=by rw[List.map_append,List.map_cons,List.map_take,List.map_drop]
  rw[e]
  have:((⟨3,0,base,objsOf (HY a l x)⟩:DH).put 1 (.arr 2 ((l.take i++y::l.drop i).map Asg.pv)))=⟨3,0,base,objsOf (HY a (l.take i++y::l.drop i) x)⟩:=by
   simp only[DH.put,DH.mk.injEq,true_and]
   funext k
   match k with
   |0=>rfl
   |1=>rfl
   |2=>rfl
   |k+3=>rfl
  rw[this]
  exact hK
 have hl:((l.take i++y::l.drop i).map Asg.pv).length=(l.map Asg.pv).length+1:=by simp;omega
 rw[hl] at hK
 refine ins_DC 1 i (l.map Asg.pv) y.pv rfl (by rw[List.length_map];exact hi) (by rw[List.length_map];omega) (Nat.zero_le _) rfl rfl (fun p hp => ?_) hK
 obtain⟨z,_,rfl⟩:=List.mem_map.1 hp
 rfl
set_option maxHeartbeats 8000000
open Go Go.Dv
theorem smx_alone {a:Act} (h:aloneI a=0):SmX a:=by
 have hO:=actI_ok h
 refine⟨fun r hr s hs => ?_,by have:=hO.agn;omega,fun l hl => ?_⟩
 ·exact Nat.lt_of_lt_of_le (hO.bits r hr s hs) (Nat.pow_le_pow_right (by decide) (by have:=hO.n8;omega))
 ·obtain⟨e,he,rfl⟩:=List.mem_iff_getElem.1 hl
  have h1:=chgs_asc ((evs_all hO.ev).2 e (by rw[← hO.post];exact he))
  rw[List.getD_eq_getElem?_getD,List.getElem?_eq_getElem he] at h1
  have h2:AscA a.post[e]:=⟨h1.1,fun x hx=>⟨(h1.2 x hx).2.1,(h1.2 x hx).2.2.1⟩⟩
  have:=h2.len
  omega
theorem asc_of {a:Act} (h:aloneI a=0) {e:Nat} (he:e<a.pre.length):AscA (a.post.getD e []):=by
 have h1:=chgs_asc ((evs_all (actI_ok h).ev).2 e he)
 exact⟨h1.1,fun x hx=>⟨(h1.2 x hx).2.1,(h1.2 x hx).2.2.1⟩⟩
theorem compose_dc (a b:Act) (hSa:SmX a) (hSb:SmX b):PureFn Tryz.prog 23 [a.pv,b.pv] (pairA (composeI a b)) :=
 cp_Compose a b hSa hSb fun ha hb e f he hf=>cp_assignments a e (b.post.getD f []) hSa ins_ok (by rw[(actI_ok ha).post];exact he) (asc_of ha he) (asc_of hb hf)
theorem cmp_alone {a b c:Act} (h:Cmp a b c):aloneI c=0:=by
 have h1:c.rel.length=a.rel.length:=by rw[h.rel,relsC,List.length_map,List.length_range]
 have hb:actI b a.rel.length (8:Nat)=0:=by rw[h.rl];exact h.b0
 have:=cmp_act (A:=a.rel.length) (F:=8) h (by decide) h.a0 hb
 rw[aloneI,h1]
 exact this
set_option maxHeartbeats 4000000
def smA1 (x:Asg):Asg:=⟨x.fact,(simI x.to).1⟩
def keepB (x:Asg):Bool:=!same x.to (buildL (nI 3 x.fact) [])
def smpL (l:List Asg):List Asg:=(l.map smA1).filter keepB
def smpA (a:Act):Act:=⟨a.pre.map (fun f=>(simI f).1),a.post.map smpL,a.rel⟩
theorem smpL_snoc {l:List Asg} {i:Nat} {x:Asg} (h:l[i]? = some x):smpL (l.take (i+1))=bif keepB (smA1 x) then smpL (l.take i)++[smA1 x] else smpL (l.take i):=by
 unfold smpL
 rw[List.take_add_one,h]
 simp only[Option.toList,List.map_append,List.map_cons,List.map_nil,List.filter_append]
 cases hk:keepB (smA1 x) with
 |true=>simp[hk]
 |false=>simp[hk]
theorem stat_ops {A F:Int} {f:List Nd} (h:statI A F f=0):check f=0∧∀ x,x∈comp f→x.op≤13:=by
 obtain⟨h1,h2,_⟩:=statI_ok h
 exact⟨h1,stB_ops (by rw[stB,h2];rfl)⟩
theorem rw_Simplify (f:List Nd) (hc:check f=0) (hs:∀ x,x∈comp f→x.op≤13):PureFn Tryz.prog 106 [fpv f] (pairF (simI f)):=by
 have hI:simI f=simF (comp f):=by rw[simI,hc];rfl
 rw[hI]
 have hU:=rw_upward f hc hs
 generalize simF (comp f)=z at *
 refine PureFn.intro mixed (fn:=Tryz.f106) rfl rfl rfl fun M w0 => ?_
 try conv=>whnf
 refine DC.alone (p:=pairF z) rfl (fun M w0=>hU M w0) ?_
 try conv=>whnf
 exact .refl _
theorem alone_pre {a:Act} (h:aloneI a=0) {p:List Nd} (hp:p∈a.pre):statI a.rel.length 8 p=0:=(evs_all (actI_ok h).ev).1 p hp
theorem alone_asg {a:Act} (h:aloneI a=0) {q:List Asg} (hq:q∈a.post) {x:Asg} (hx:x∈q):(0≤x.fact∧x.fact<8)∧statI a.rel.length 8 x.to=0:=by
 have hO:=actI_ok h
 obtain⟨e,he,rfl⟩:=List.mem_iff_getElem.1 hq
 have h1:=chgs_asc ((evs_all hO.ev).2 e (by rw[← hO.post];exact he))
 rw[List.getD_eq_getElem?_getD,List.getElem?_eq_getElem he] at h1
 have h2:=h1.2 x hx
 exact⟨⟨h2.2.1,h2.2.2.1⟩,h2.2.2.2⟩
theorem cp_simple (a:Act) (ha:aloneI a=0):PureFn Tryz.prog 52 [a.pv] (smpA a).pv:=by
 have hO:=actI_ok ha
 have hS:=smx_alone ha
 have n8:=hO.n8
 have hpl:=hO.post
 have e1:((a.pre.map fpv).length:Int)=(a.pre.length:Int):=by simp
 refine PureFn.introC [11,14] mixed (fn:=Tryz.f52) rfl rfl rfl fun M w0 => ?_
 try conv=>whnf
 refine⟨{ i:Nat // i≤a.pre.length },fun i=>[(1,.ref 0 0),(2,.ref 1 0),(3,.ref 2 0),(17,.pv (.sl (a.pre.map fpv))),(18,.pv (i64 (a.pre.map fpv).length)),(19,.pv (i64 i.1))],fun _=>5,fun i=>[(0,.var (cellsA a)),(1,.var cellsZ),(2,.var [.buf 3 (((a.pre.take i.1).map fun f=>(simI f).1).map fpv).length,.buf 4 (((a.post.take i.1).map smpL).map postPV).length,.pv (.sl (a.rel.map rowPV))]),(3,.arr 1 (((a.pre.take i.1).map fun f=>(simI f).1).map fpv)),(4,.arr 1 (((a.post.take i.1).map smpL).map postPV))],fun i=>a.pre.length-i.1,⟨⟨0,Nat.zero_le _⟩,(by refine Wk.of ?_ ?_ rfl rfl rfl<;>repeat' (first|exact trivial|exact WkD.same _|exact WkO.same _ _ rfl|exact WkD.new' rfl rfl rfl|exact WkO.new _ _ rfl|refine WkO.vars rfl ?_|exact rfl|refine⟨?_,?_⟩|fail))⟩,?_⟩
 rintro⟨i,hi⟩
 (try conv=>whnf);repeat' (first|(apply And.intro<;>try conv=>whnf)|(intro h;try conv=>whnf)|(apply infoT;rfl)|(apply bleI;rfl)|fail)
 ·have hi':i<a.pre.length:=by simpa using lt_dec h
  obtain⟨p,hp⟩:∃ y,a.pre[i]? = some y:=⟨_,List.getElem?_eq_getElem hi'⟩
  obtain⟨q,hq⟩:∃ y,a.post[i]? = some y:=⟨_,List.getElem?_eq_getElem (by rw[hpl];exact hi')⟩
  have hSp:=stat_ops (alone_pre ha (List.mem_iff_getElem?.2 ⟨_,hp⟩))
  have hFp:=rw_Simplify p hSp.1 hSp.2
  have hixq:=idx_map (g:=postPV) hq
  have hqm:=List.mem_iff_getElem?.2 ⟨_,hq⟩
  refine⟨_,_,rfl,idx_map hp,rfl,?_⟩
  (try conv=>whnf);repeat' (first|(refine PureFn.dcq (f:=106) rfl ?_;try conv=>whnf)|(refine⟨_,_,hFp,?_,?_⟩;(focus first|(refine⟨?_,trivial⟩<;>first|exact PLe.refl _|exact PLe.nil)|exact trivial);try conv=>whnf)|fail)
  refine⟨Unit,fun _=>[(1,.ref 0 0),(2,.ref 1 0),(3,.ref 2 0),(17,.pv (.sl (a.pre.map fpv))),(18,.pv (i64 (a.pre.map fpv).length)),(19,.pv (i64 i)),(6,.pv (fpv (simI p).1)),(8,.pv (postPV (smpL (q.take q.length))))],fun _=>5,fun _=>[(0,.var (cellsA a)),(1,.var cellsZ),(2,.var [.buf 3 (((a.pre.take i).map fun f=>(simI f).1).map fpv).length,.buf 4 (((a.post.take i).map smpL).map postPV).length,.pv (.sl (a.rel.map rowPV))]),(3,.arr 1 (((a.pre.take i).map fun f=>(simI f).1).map fpv)),(4,.arr 1 (((a.post.take i).map smpL).map postPV))],?_,?_⟩
  ·(try conv=>whnf);repeat' (first|(apply And.intro<;>try conv=>whnf)|(apply infoT;rfl)|(refine⟨_,_,rfl,idx_map (by with_reducible assumption),rfl,?_⟩;try conv=>whnf)|fail)
   refine⟨{ j:Nat // j≤q.length },fun j=>[(1,.ref 0 0),(2,.ref 1 0),(3,.ref 2 0),(17,.pv (.sl (a.pre.map fpv))),(18,.pv (i64 (a.pre.map fpv).length)),(19,.pv (i64 i)),(6,.pv (fpv (simI p).1)),(33,.pv (postPV q)),(34,.pv (i64 (q.map Asg.pv).length)),(35,.pv (i64 j.1)),(8,.buf 5 ((smpL (q.take j.1)).map Asg.pv).length)],fun _=>6,fun j=>[(0,.var (cellsA a)),(1,.var cellsZ),(2,.var [.buf 3 (((a.pre.take i).map fun f=>(simI f).1).map fpv).length,.buf 4 (((a.post.take i).map smpL).map postPV).length,.pv (.sl (a.rel.map rowPV))]),(3,.arr 1 (((a.pre.take i).map fun f=>(simI f).1).map fpv)),(4,.arr 1 (((a.post.take i).map smpL).map postPV)),(5,.arr 2 ((smpL (q.take j.1)).map Asg.pv))],fun j=>q.length-j.1,⟨⟨0,Nat.zero_le _⟩,(by refine Wk.of ?_ ?_ rfl rfl rfl<;>repeat' (first|exact trivial|exact WkD.same _|exact WkO.same _ _ rfl|exact WkD.new' rfl rfl rfl|exact WkO.new _ _ rfl|exact rfl|refine⟨?_,?_⟩|fail))⟩,?_⟩
   rintro⟨j,hj⟩
   (try conv=>whnf);repeat' (first|(apply And.intro<;>try conv=>whnf)|(intro h;try conv=>whnf)|(apply infoT;rfl)|fail)
   ·have hj':j<q.length:=by simpa using lt_dec h
    obtain⟨x,hx⟩:∃ y,q[j]? = some y:=⟨_,List.getElem?_eq_getElem hj'⟩
    have hxm:=List.mem_iff_getElem?.2 ⟨_,hx⟩
    have hSx:=stat_ops (alone_asg ha hqm hxm).2
    have hFx:=rw_Simplify x.to hSx.1 hSx.2
    have hxf:=(alone_asg ha hqm hxm).1
    have hFa:=fm_Fact x.fact
    have hSa:=fm_Same (simI x.to).1 (buildL (nI 3 x.fact) [])
    have hsn:=smpL_snoc hx
    refine⟨_,_,rfl,idx_map hx,rfl,?_⟩
    try conv=>whnf
    refine⟨Unit,fun _=>[(1,.ref 0 0),(2,.ref 1 0),(3,.ref 2 0),(17,.pv (.sl (a.pre.map fpv))),(18,.pv (i64 (a.pre.map fpv).length)),(19,.pv (i64 i)),(6,.pv (fpv (simI p).1)),(33,.pv (postPV q)),(34,.pv (i64 (q.map Asg.pv).length)),(35,.pv (i64 j)),(8,.buf 5 ((smpL (q.take j)).map Asg.pv).length),(10,.ref 6 0),(11,.pv (fpv (simI x.to).1))],fun _=>7,fun _=>[(0,.var (cellsA a)),(1,.var cellsZ),(2,.var [.buf 3 (((a.pre.take i).map fun f=>(simI f).1).map fpv).length,.buf 4 (((a.post.take i).map smpL).map postPV).length,.pv (.sl (a.rel.map rowPV))]),(3,.arr 1 (((a.pre.take i).map fun f=>(simI f).1).map fpv)),(4,.arr 1 (((a.post.take i).map smpL).map postPV)),(5,.arr 2 ((smpL (q.take j)).map Asg.pv)),(6,.var [.pv (.int .i64 x.fact),.pv (fpv x.to)])],?_,?_⟩
    ·(try conv=>whnf);repeat' (first|(refine PureFn.dcq (f:=106) rfl ?_;try conv=>whnf)|(refine⟨_,_,hFx,?_,?_⟩;(focus first|(refine⟨?_,trivial⟩<;>first|exact PLe.refl _|exact PLe.nil)|exact trivial);try conv=>whnf)|fail)
     exact⟨(),(by refine Wk.of ?_ ?_ rfl rfl rfl<;>repeat' (first|exact trivial|exact WkD.same _|exact WkO.same _ _ rfl|refine⟨?_,?_⟩|fail))⟩
    rintro⟨⟩
    have hlq:=hS.post q hqm
    have hlf:(smpL (q.take j)).length≤1000:=by
     refine Nat.le_trans (List.length_filter_le _ _) ?_
     rw[List.length_map,List.length_take];omega
    (try conv=>whnf);repeat' (first|(apply And.intro<;>try conv=>whnf)|(intro h;try conv=>whnf)|(apply cellsI;rfl)|(apply szI;rfl)|(refine PureFn.dcq (f:=83) rfl ?_;try conv=>whnf)|(refine PureFn.dcq (f:=33) rfl ?_;try conv=>whnf)|(refine⟨_,_,hFa,?_,?_⟩;(focus first|(refine⟨?_,trivial⟩<;>first|exact PLe.refl _|exact PLe.nil)|exact trivial);try conv=>whnf)|(refine⟨_,_,hSa,?_,?_⟩;(focus first|(refine⟨?_,?_,trivial⟩<;>first|exact PLe.refl _|exact PLe.nil)|exact trivial);try conv=>whnf)|fail)
    ·show ((smpL (q.take j)).map Asg.pv).length+1≤4294967296
     rw[List.length_map];omega
    ·rw[show keepB (smA1 x)=true from h] at hsn
     have hm:(smpL (q.take j)).map Asg.pv++[Asg.pv (smA1 x)]=(smpL (q.take (j+1))).map Asg.pv:=by rw[hsn,cond_true,List.map_append];rfl
     refine⟨⟨j+1,hj'⟩,by show q.length-(j+1)<q.length-j;omega,?_⟩
     (refine Wk.of ?_ ?_ rfl rfl rfl<;>repeat' (first|exact trivial|exact WkD.same _|exact WkO.same _ _ rfl|exact WkD.eq (congrArg (fun z:List PV=>DV.buf _ z.length) hm)|exact WkO.same _ _ (congrArg (fun z=>some (DObj.arr _ z)) hm)|refine WkD.int ?_|refine⟨?_,?_⟩|(refine wrapA ?_ ?_ ?_;(focus simp;done);(focus (try dsimp only);omega);(focus (try dsimp only);omega))|fail))
    ·rw[show keepB (smA1 x)=false from h] at hsn
     have hm:(smpL (q.take j)).map Asg.pv=(smpL (q.take (j+1))).map Asg.pv:=by rw[hsn,cond_false]
     refine⟨⟨j+1,hj'⟩,by show q.length-(j+1)<q.length-j;omega,?_⟩
     (refine Wk.of ?_ ?_ rfl rfl rfl<;>repeat' (first|exact trivial|exact WkD.same _|exact WkO.same _ _ rfl|exact WkD.eq (congrArg (fun z:List PV=>DV.buf _ z.length) hm)|exact WkO.same _ _ (congrArg (fun z=>some (DObj.arr _ z)) hm)|refine WkD.int ?_|refine⟨?_,?_⟩|(refine wrapA ?_ ?_ ?_;(focus simp;done);(focus (try dsimp only);omega);(focus (try dsimp only);omega))|fail))
   ·have hj':j=q.length:=by have:=ge_dec (m:=(q.map Asg.pv).length) h (by simpa using hj);simpa using this
    subst hj'
    exact⟨(),(by refine Wk.of ?_ ?_ rfl rfl rfl<;>repeat' (first|exact trivial|exact WkD.same _|exact WkO.same _ _ rfl|exact WkD.fz _ _ _ rfl (Or.inl ⟨_,rfl⟩) rfl|refine⟨?_,?_⟩|fail))⟩
  rintro⟨⟩
  rw[show q.take q.length=q from List.take_length]
  have hs1:(((a.pre.take i).map fun f=>(simI f).1).map fpv).length≤1000:=by simp;omega
  have hs2:(((a.post.take i).map smpL).map postPV).length≤1000:=by simp;omega
  have e5:((a.pre.take i).map fun f=>(simI f).1).map fpv++[fpv (simI p).1]=((a.pre.take (i+1)).map fun f=>(simI f).1).map fpv:=by
   rw[List.take_add_one,hp,List.map_append,List.map_append];rfl
  have e6:((a.post.take i).map smpL).map postPV++[postPV (smpL q)]=((a.post.take (i+1)).map smpL).map postPV:=by
   rw[List.take_add_one,hq,List.map_append,List.map_append];rfl
  try conv=>whnf
  refine⟨Plan.ofL [0,1,2,3,5,6,7,8,4,10,9,11,12,13],[11,13,1004,1009,2005,2006,2010],by kernel_rfl,?_⟩
  (try conv=>whnf);repeat' (first|(apply And.intro<;>try conv=>whnf)|(intro h;try conv=>whnf)|(apply cellsI;rfl)|(apply szI;rfl)|fail)
  ·exact app_big (n:=1000) hs1 (by decide)
  ·exact ExtV.put (k:=3) (fun cs h=>by cases h) _ _ h
  ·exact app_big (n:=1000) hs2 (by decide)
  ·exact ExtV.put (k:=4) (fun cs h=>by cases h) _ _ h
  ·refine⟨⟨i+1,hi'⟩,by show a.pre.length-(i+1)<a.pre.length-i;omega,?_⟩
   (refine Wk.of ?_ ?_ rfl rfl rfl<;>repeat' (first|exact trivial|exact WkD.same _|exact WkO.same _ _ rfl|exact WkD.eq (congrArg (fun z:List PV=>DV.buf _ z.length) e5)|exact WkO.same _ _ (congrArg (fun z=>some (DObj.arr _ z)) e5)|exact WkD.eq (congrArg (fun z:List PV=>DV.buf _ z.length) e6)|exact WkO.same _ _ (congrArg (fun z=>some (DObj.arr _ z)) e6)|refine WkD.int ?_|refine WkO.vars rfl ?_|refine⟨?_,?_⟩|(refine wrapA ?_ ?_ ?_;(focus simp;done);(focus (try dsimp only);omega);(focus (try dsimp only);omega))|fail))
 ·have hi':i=a.pre.length:=by have:=ge_dec (m:=(a.pre.map fpv).length) h (by simpa using hi);simpa using this
  subst hi'
  rw[show a.pre.take a.pre.length=a.pre from List.take_length,show a.post.take a.pre.length=a.post by rw[← hpl,List.take_length]]
  exact .refl _
def keepA (a:Act) (ws:List Nat):Act:=⟨ws.map fun w=>a.pre.getD w [],ws.map fun w=>a.post.getD w [],a.rel.map fun r=>ws.map fun w=>pullN (r.getD w 0) ws⟩
structure Shp (a:Act) (n:Nat):Prop where
 pre:a.pre.length=n
 post:a.post.length=n
 n8:n≤8
 ag:a.rel.length≤1000
 rows:∀ r,r∈a.rel→r.length=n
 bits:∀ r,r∈a.rel→∀ s,s∈r→s<2^n
theorem cp_keep (a:Act) (n:Nat) (hA:Shp a n) (ws:List Nat) (hw:∀ w,w∈ws→w<n) (hl:ws.length≤8):PureFn Tryz.prog 54 [a.pv,intsPV ws] (keepA a ws).pv:=by
 have n8:=hA.n8
 have hw64:∀ w,w∈ws→w<64:=fun w h=>by have:=hw w h;omega
 obtain⟨ro,qro⟩:∃ ro:List Nat→List Nat,ro=fun r=>ws.map fun w=>pullN (r.getD w 0) ws:=⟨_,rfl⟩
 have har:(keepA a ws).pv=.agg [.sl (((ws.take ws.length).map fun w=>a.pre.getD w []).map fpv),.sl (((ws.take ws.length).map fun w=>a.post.getD w []).map postPV),.sl (((a.rel.take a.rel.length).map ro).map rowPV)]:=by rw[qro,List.take_length,List.take_length];rfl
 rw[har]
 refine PureFn.introC [7,20,22] mixed (fn:=Tryz.f54) rfl rfl rfl fun M w0 => ?_
 try conv=>whnf
 refine⟨Unit,fun _=>[(1,.pv (intsPV ws)),(2,.ref 0 0),(4,.ref 1 0),(5,.ref 2 0)],fun _=>3,fun _=>[(0,.var (cellsA a)),(1,.var cellsZ),(2,.var [.pv (.sl (((ws.take ws.length).map fun w=>a.pre.getD w []).map fpv)),.pv (.sl (((ws.take ws.length).map fun w=>a.post.getD w []).map postPV)),.pv .nil])],?_,?_⟩
 ·try conv=>whnf
  refine⟨{ i:Nat // i≤ws.length },fun i=>[(1,.pv (intsPV ws)),(2,.ref 0 0),(4,.ref 1 0),(5,.ref 2 0),(16,.pv (intsPV ws)),(17,.pv (i64 (ws.map i64).length)),(18,.pv (i64 i.1))],fun _=>5,fun i=>[(0,.var (cellsA a)),(1,.var cellsZ),(2,.var [.buf 3 (((ws.take i.1).map fun w=>a.pre.getD w []).map fpv).length,.buf 4 (((ws.take i.1).map fun w=>a.post.getD w []).map postPV).length,.pv .nil]),(3,.arr 1 (((ws.take i.1).map fun w=>a.pre.getD w []).map fpv)),(4,.arr 1 (((ws.take i.1).map fun w=>a.post.getD w []).map postPV))],fun i=>ws.length-i.1,⟨⟨0,Nat.zero_le _⟩,(by refine Wk.of ?_ ?_ rfl rfl rfl<;>repeat' (first|exact trivial|exact WkD.same _|exact WkO.same _ _ rfl|exact WkD.new' rfl rfl rfl|exact WkO.new _ _ rfl|refine WkO.vars rfl ?_|exact rfl|refine⟨?_,?_⟩|fail))⟩,?_⟩
  rintro⟨i,hi⟩
  (try conv=>whnf);repeat' (first|(apply And.intro<;>try conv=>whnf)|(intro h;try conv=>whnf)|(apply infoT;rfl)|fail)
  ·have hi':i<ws.length:=by simpa using lt_dec h
   obtain⟨w,hx⟩:∃ y,ws[i]? = some y:=⟨_,List.getElem?_eq_getElem hi'⟩
   have hwn:=hw w (List.mem_iff_getElem?.2 ⟨_,hx⟩)
   obtain⟨p,hp⟩:∃ p,a.pre[w]? = some p:=⟨_,List.getElem?_eq_getElem (by rw[hA.pre];exact hwn)⟩
   obtain⟨q,hq⟩:∃ q,a.post[w]? = some q:=⟨_,List.getElem?_eq_getElem (by rw[hA.post];exact hwn)⟩
   have hpd:a.pre.getD w []=p:=by rw[List.getD_eq_getElem?_getD,hp];rfl
   have hqd:a.post.getD w []=q:=by rw[List.getD_eq_getElem?_getD,hq];rfl
   have hixq:=idx_map (g:=postPV) hq
   have hixp:=idx_map (g:=fpv) hp
   have hs1:(((ws.take i).map fun w=>a.pre.getD w []).map fpv).length≤1000:=by simp;omega
   have hs2:(((ws.take i).map fun w=>a.post.getD w []).map postPV).length≤1000:=by simp;omega
   have e5:((ws.take i).map fun w=>a.pre.getD w []).map fpv++[fpv p]=((ws.take (i+1)).map fun w=>a.pre.getD w []).map fpv:=by
    rw[List.take_add_one,hx,List.map_append,List.map_append,← hpd];rfl
   have e6:((ws.take i).map fun w=>a.post.getD w []).map postPV++[postPV q]=((ws.take (i+1)).map fun w=>a.post.getD w []).map postPV:=by
    rw[List.take_add_one,hx,List.map_append,List.map_append,← hqd];rfl
   refine⟨_,_,rfl,idx_map hx,rfl,?_⟩
   try conv=>whnf
   refine⟨Plan.ofL [0,1,2,3,4,5,6,7,9,10,11,12,13,14,15,16,8,18,17,19,20,21],[19,21,1008,1017,2009,2010,2011,2012,2014,2015,2018],by kernel_rfl,?_⟩
   (try conv=>whnf);repeat' (first|(apply And.intro<;>try conv=>whnf)|(intro h;try conv=>whnf)|(apply infoT;rfl)|(apply cellsI;rfl)|(apply szI;rfl)|(refine⟨_,_,rfl,idx_map (by with_reducible assumption),rfl,?_⟩;try conv=>whnf)|fail)
   ·exact app_big (n:=1000) hs1 (by decide)
   ·exact ExtV.put (k:=3) (fun cs h=>by cases h) _ _ h
   ·exact app_big (n:=1000) hs2 (by decide)
   ·exact ExtV.put (k:=4) (fun cs h=>by cases h) _ _ h
   ·refine⟨⟨i+1,hi'⟩,by show ws.length-(i+1)<ws.length-i;omega,?_⟩
    (refine Wk.of ?_ ?_ rfl rfl rfl<;>repeat' (first|exact trivial|exact WkD.same _|exact WkO.same _ _ rfl|exact WkD.eq (congrArg (fun z:List PV=>DV.buf _ z.length) e5)|exact WkO.same _ _ (congrArg (fun z=>some (DObj.arr _ z)) e5)|exact WkD.eq (congrArg (fun z:List PV=>DV.buf _ z.length) e6)|exact WkO.same _ _ (congrArg (fun z=>some (DObj.arr _ z)) e6)|refine WkD.int ?_|refine WkO.vars rfl ?_|refine⟨?_,?_⟩|(refine wrapA ?_ ?_ ?_;(focus simp;done);(focus (try dsimp only);omega);(focus (try dsimp only);omega))|fail))
  ·have hi':i=ws.length:=by have:=ge_dec (m:=(ws.map i64).length) h (by simpa using hi);simpa using this
   subst hi'
   exact⟨(),(by refine Wk.of ?_ ?_ rfl rfl rfl<;>repeat' (first|exact trivial|exact WkD.same _|exact WkO.same _ _ rfl|exact WkD.fz _ _ _ rfl (Or.inl ⟨_,rfl⟩) rfl|refine WkO.vars rfl ?_|refine⟨?_,?_⟩|fail))⟩
 rintro⟨⟩
 generalize ((ws.take ws.length).map fun w=>a.pre.getD w []).map fpv=V
 generalize ((ws.take ws.length).map fun w=>a.post.getD w []).map postPV=W
 try conv=>whnf
 refine⟨{ i:Nat // i≤a.rel.length },fun i=>[(1,.pv (intsPV ws)),(2,.ref 0 0),(4,.ref 1 0),(5,.ref 2 0),(44,.pv (.sl (a.rel.map rowPV))),(45,.pv (i64 (a.rel.map rowPV).length)),(46,.pv (i64 i.1))],fun _=>4,fun i=>[(0,.var (cellsA a)),(1,.var cellsZ),(2,.var [.pv (.sl V),.pv (.sl W),.buf 3 (((a.rel.take i.1).map ro).map rowPV).length]),(3,.arr 1 (((a.rel.take i.1).map ro).map rowPV))],fun i=>a.rel.length-i.1,⟨⟨0,Nat.zero_le _⟩,(by refine Wk.of ?_ ?_ rfl rfl rfl<;>repeat' (first|exact trivial|exact WkD.same _|exact WkO.same _ _ rfl|exact WkD.new' rfl rfl rfl|exact WkO.new _ _ rfl|refine WkO.vars rfl ?_|exact rfl|refine⟨?_,?_⟩|fail))⟩,?_⟩
 rintro⟨i,hi⟩
 (try conv=>whnf);repeat' (first|(apply And.intro<;>try conv=>whnf)|(intro h;try conv=>whnf)|(apply infoT;rfl)|(apply bleI;rfl)|fail)
 ·have hi':i<a.rel.length:=by simpa using lt_dec h
  obtain⟨r,hx⟩:∃ y,a.rel[i]? = some y:=⟨_,List.getElem?_eq_getElem hi'⟩
  have hrm:=List.mem_iff_getElem?.2 ⟨_,hx⟩
  have hrl:=hA.rows r hrm
  have hr64:∀ s,s∈r→s<2^64:=fun s hs=>Nat.lt_of_lt_of_le (hA.bits r hrm s hs) (Nat.pow_le_pow_right (by decide) (by omega))
  have hag:=hA.ag
  have ht:=take_map (f:=ro) hx
  have hvsl:(((a.rel.take i).map ro).map rowPV).length≤1000:=by simp;omega
  have er:((a.rel.take i).map ro).map rowPV++[rowPV (ro r)]=((a.rel.take (i+1)).map ro).map rowPV:=by rw[ht,List.map_append];rfl
  refine⟨_,_,rfl,idx_map hx,rfl,?_⟩
  try conv=>whnf
  refine⟨Unit,fun _=>[(1,.pv (intsPV ws)),(2,.ref 0 0),(4,.ref 1 0),(5,.ref 2 0),(10,.pv (rowPV ((ws.take ws.length).map fun w=>pullN (r.getD w 0) ws))),(44,.pv (.sl (a.rel.map rowPV))),(45,.pv (i64 (a.rel.map rowPV).length)),(46,.pv (i64 i))],fun _=>4,fun _=>[(0,.var (cellsA a)),(1,.var cellsZ),(2,.var [.pv (.sl V),.pv (.sl W),.buf 3 (((a.rel.take i).map ro).map rowPV).length]),(3,.arr 1 (((a.rel.take i).map ro).map rowPV))],?_,?_⟩
  ·try conv=>whnf
   refine⟨{ j:Nat // j≤ws.length },fun j=>[(1,.pv (intsPV ws)),(2,.ref 0 0),(4,.ref 1 0),(5,.ref 2 0),(9,.pv (rowPV r)),(10,.buf 4 (((ws.take j.1).map fun w=>pullN (r.getD w 0) ws).map u64).length),(44,.pv (.sl (a.rel.map rowPV))),(45,.pv (i64 (a.rel.map rowPV).length)),(46,.pv (i64 i)),(50,.pv (intsPV ws)),(51,.pv (i64 (ws.map i64).length)),(52,.pv (i64 j.1))],fun _=>5,fun j=>[(0,.var (cellsA a)),(1,.var cellsZ),(2,.var [.pv (.sl V),.pv (.sl W),.buf 3 (((a.rel.take i).map ro).map rowPV).length]),(3,.arr 1 (((a.rel.take i).map ro).map rowPV)),(4,.arr 1 (((ws.take j.1).map fun w=>pullN (r.getD w 0) ws).map u64))],fun j=>ws.length-j.1,⟨⟨0,Nat.zero_le _⟩,(by refine Wk.of ?_ ?_ rfl rfl rfl<;>repeat' (first|exact trivial|exact WkD.same _|exact WkO.same _ _ rfl|exact WkD.new' rfl rfl rfl|exact WkO.new _ _ rfl|exact rfl|refine⟨?_,?_⟩|fail))⟩,?_⟩
   rintro⟨j,hj⟩
   (try conv=>whnf);repeat' (first|(apply And.intro<;>try conv=>whnf)|(intro h;try conv=>whnf)|(apply infoT;rfl)|fail)
   ·have hj':j<ws.length:=by simpa using lt_dec h
    obtain⟨w,hx2⟩:∃ y,ws[j]? = some y:=⟨_,List.getElem?_eq_getElem hj'⟩
    have hwn:=hw w (List.mem_iff_getElem?.2 ⟨_,hx2⟩)
    have hx3:r[w]? = some (r.getD w 0):=getD_mem (by omega)
    have hs64:=hr64 _ (List.mem_iff_getElem?.2 ⟨_,hx3⟩)
    have ht2:=take_map (f:=fun w=>pullN (r.getD w 0) ws) hx2
    have hvsl2:(((ws.take j).map fun w=>pullN (r.getD w 0) ws).map u64).length≤1000:=by simp;omega
    have er2:((ws.take j).map fun w=>pullN (r.getD w 0) ws).map u64++[PV.int .u64 ((pullN (r.getD w 0) ws:Nat):Int)]=((ws.take (j+1)).map fun w=>pullN (r.getD w 0) ws).map u64:=by rw[ht2,List.map_append];rfl
    generalize hgz:r.getD w 0=z at hx3 er2 hs64
    have hixr:=idx_map (g:=u64) hx3
    refine⟨_,_,rfl,idx_map hx2,rfl,?_⟩
    try conv=>whnf
    refine⟨Unit,fun _=>[(1,.pv (intsPV ws)),(2,.ref 0 0),(4,.ref 1 0),(5,.ref 2 0),(9,.pv (rowPV r)),(10,.buf 4 (((ws.take j).map fun w=>pullN (r.getD w 0) ws).map u64).length),(44,.pv (.sl (a.rel.map rowPV))),(45,.pv (i64 (a.rel.map rowPV).length)),(46,.pv (i64 i)),(50,.pv (intsPV ws)),(51,.pv (i64 (ws.map i64).length)),(52,.pv (i64 j)),(13,.pv (u64 (pullN z ws)))],fun _=>5,fun _=>[(0,.var (cellsA a)),(1,.var cellsZ),(2,.var [.pv (.sl V),.pv (.sl W),.buf 3 (((a.rel.take i).map ro).map rowPV).length]),(3,.arr 1 (((a.rel.take i).map ro).map rowPV)),(4,.arr 1 (((ws.take j).map fun w=>pullN (r.getD w 0) ws).map u64))],?_,?_⟩
    ·try conv=>whnf
     refine⟨{ k:Nat // k≤ws.length },fun k=>[(1,.pv (intsPV ws)),(2,.ref 0 0),(4,.ref 1 0),(5,.ref 2 0),(9,.pv (rowPV r)),(10,.buf 4 (((ws.take j).map fun w=>pullN (r.getD w 0) ws).map u64).length),(44,.pv (.sl (a.rel.map rowPV))),(45,.pv (i64 (a.rel.map rowPV).length)),(46,.pv (i64 i)),(50,.pv (intsPV ws)),(51,.pv (i64 (ws.map i64).length)),(52,.pv (i64 j)),(12,.pv (i64 w)),(13,.pv (u64 (maskOf (fun i=>z.testBit (ws.getD i 0)) k.1))),(56,.pv (intsPV ws)),(57,.pv (i64 (ws.map i64).length)),(58,.pv (i64 k.1))],fun _=>5,fun _=>[(0,.var (cellsA a)),(1,.var cellsZ),(2,.var [.pv (.sl V),.pv (.sl W),.buf 3 (((a.rel.take i).map ro).map rowPV).length]),(3,.arr 1 (((a.rel.take i).map ro).map rowPV)),(4,.arr 1 (((ws.take j).map fun w=>pullN (r.getD w 0) ws).map u64))],fun k=>ws.length-k.1,⟨⟨0,Nat.zero_le _⟩,(by refine Wk.of ?_ ?_ rfl rfl rfl<;>repeat' (first|exact trivial|exact WkD.same _|exact WkO.same _ _ rfl|refine⟨?_,?_⟩|fail))⟩,?_⟩
     rintro⟨k,hk⟩
     (try conv=>whnf);repeat' (first|(apply And.intro<;>try conv=>whnf)|(intro h;try conv=>whnf)|(apply infoT;rfl)|fail)
     ·have hk':k<ws.length:=by simpa using lt_dec h
      obtain⟨v,hv,hvv⟩:∃ y,ws[k]? = some y∧ws.getD k 0=y:=⟨_,getD_mem hk',rfl⟩
      have hv64:=hw64 v (List.mem_iff_getElem?.2 ⟨_,hv⟩)
      have hst:=pull_step (q:=fun i=>z.testBit (ws.getD i 0)) hs64 hv64 (show k<64 by omega) (by show z.testBit (ws.getD k 0)=_;rw[hvv])
      refine⟨_,_,rfl,idx_map hv,rfl,?_⟩
      (try conv=>whnf);repeat' (first|(apply And.intro<;>try conv=>whnf)|(apply infoT;rfl)|(refine⟨_,_,rfl,idx_map (by with_reducible assumption),rfl,?_⟩;try conv=>whnf)|fail)
      ·exact Int.natCast_nonneg _
      ·exact Int.natCast_nonneg _
      ·refine⟨⟨k+1,hk'⟩,by show ws.length-(k+1)<ws.length-k;omega,?_⟩
       (refine Wk.of ?_ ?_ rfl rfl rfl<;>repeat' (first|exact trivial|exact WkD.same _|exact WkO.same _ _ rfl|refine WkD.int ?_|refine⟨?_,?_⟩|(refine wrapA ?_ ?_ ?_;(focus simp;done);(focus (try dsimp only);omega);(focus (try dsimp only);omega))|fail))
       exact hst
     ·have hk':k=ws.length:=by have:=ge_dec (m:=(ws.map i64).length) h (by simpa using hk);simpa using this
      subst hk'
      exact⟨(),(by refine Wk.of ?_ ?_ rfl rfl rfl<;>repeat' (first|exact trivial|exact WkD.same _|exact WkO.same _ _ rfl|refine⟨?_,?_⟩|fail))⟩
    rintro⟨⟩
    (try conv=>whnf);repeat' (first|(apply And.intro<;>try conv=>whnf)|(apply cellsI;rfl)|(apply szI;rfl)|fail)
    ·exact app_big (n:=1000) hvsl2 (by decide)
    ·refine⟨⟨j+1,hj'⟩,by show ws.length-(j+1)<ws.length-j;omega,?_⟩
     (refine Wk.of ?_ ?_ rfl rfl rfl<;>repeat' (first|exact trivial|exact WkD.same _|exact WkO.same _ _ rfl|exact WkD.eq (congrArg (fun z:List PV=>DV.buf _ z.length) er2)|exact WkO.same _ _ (congrArg (fun z=>some (DObj.arr _ z)) er2)|refine WkD.int ?_|refine⟨?_,?_⟩|(refine wrapA ?_ ?_ ?_;(focus simp;done);(focus (try dsimp only);omega);(focus (try dsimp only);omega))|fail))
   ·have hj':j=ws.length:=by have:=ge_dec (m:=(ws.map i64).length) h (by simpa using hj);simpa using this
    subst hj'
    exact⟨(),(by refine Wk.of ?_ ?_ rfl rfl rfl<;>repeat' (first|exact trivial|exact WkD.same _|exact WkO.same _ _ rfl|exact WkD.fz _ _ _ rfl (Or.inl ⟨_,rfl⟩) rfl|refine⟨?_,?_⟩|fail))⟩
  rintro⟨⟩
  have hR:(ws.take ws.length).map (fun w=>pullN (r.getD w 0) ws)=ro r:=by rw[List.take_length,qro]
  generalize (ws.take ws.length).map (fun w=>pullN (r.getD w 0) ws)=R at hR
  rw[← hR] at er
  (try conv=>whnf);repeat' (first|(apply And.intro<;>try conv=>whnf)|(apply cellsI;rfl)|(apply szI;rfl)|fail)
  ·exact app_big (n:=1000) hvsl (by decide)
  ·refine⟨⟨i+1,hi'⟩,by show a.rel.length-(i+1)<a.rel.length-i;omega,?_⟩
   (refine Wk.of ?_ ?_ rfl rfl rfl<;>repeat' (first|exact trivial|exact WkD.same _|exact WkO.same _ _ rfl|exact WkD.eq (congrArg (fun z:List PV=>DV.buf _ z.length) er)|exact WkO.same _ _ (congrArg (fun z=>some (DObj.arr _ z)) er)|refine WkD.int ?_|refine WkO.vars rfl ?_|refine⟨?_,?_⟩|(refine wrapA ?_ ?_ ?_;(focus simp;done);(focus (try dsimp only);omega);(focus (try dsimp only);omega))|fail))
 ·have hi':i=a.rel.length:=by have:=ge_dec (m:=(a.rel.map rowPV).length) h (by simpa using hi);simpa using this
  subst hi'
  exact .refl _
def rowB (r:List Bool):PV:=.sl (r.map .bool)
def tabPV (z:List (List Bool)):PV:=.sl (z.map rowB)
def zAt (z:List (List Bool)) (g h:Nat):Bool:=(z.getD g []).getD h false
def HAl (a b:Act) (z:List (List Bool)) (g:Nat):List (Nat×DObj):=[(0,.var (cellsA a)),(1,.var (cellsA b)),(2,.var [.pv (tabPV z)]),(3,.var [.pv (i64 g)])]
def anyN (p:Nat→Bool):Nat→Bool
 |0=>false
 |n+1=>bif anyN p n then true else p n
theorem anyN_of {p:Nat→Bool} {k:Nat} (h:p k=true):∀ {n:Nat},k<n→anyN p n=true
 |n+1,hk=>by
  rw[anyN]
  by_cases e:k<n
  ·rw[anyN_of h e];rfl
  ·have:k=n:=by omega
   subst this
   rw[h];cases anyN p k<;>rfl
theorem anyN_no {p:Nat→Bool} {n:Nat} (h1:anyN p n=false) (h2:p n=false):anyN p (n+1)=false:=by rw[anyN,h1,h2];rfl
def someN (s:Nat) (p:Nat→Bool) (n:Nat):Bool:=anyN (fun e=>bif s.testBit e then p e else false) n
structure Tab (z:List (List Bool)) (n m:Nat):Prop where
 len:z.length=n
 row:∀ r,r∈z→r.length=m
theorem Tab.at {z:List (List Bool)} {n m g h:Nat} (hz:Tab z n m) (hg:g<n) (hh:h<m):z[g]? = some (z.getD g [])∧(z.getD g [])[h]? = some (zAt z g h):=by
 have h1:z[g]? = some (z.getD g []):=getD_mem (by rw[hz.len];exact hg)
 refine⟨h1,getD_mem ?_⟩
 rw[hz.row _ (List.mem_iff_getElem?.2 ⟨_,h1⟩)];exact hh
theorem clo_m1 {M:Nat→Prop} {w0:W0} (a b:Act) (z:List (List Bool)) {n m:Nat} (hz:Tab z n m) (g h:Nat) (hg:g<n) (hh:h<m) (base:Nat) (K:DV→DH→Prop) (hK:K (.pv (.bool (zAt z g h))) ⟨4,0,base,objsOf (HAl a b z g)⟩) :
  DC Tryz.prog M w0 144 [.pv (i64 h),.ref 2 0,.ref 3 0] ⟨4,0,base,objsOf (HAl a b z g)⟩ K:=by
 obtain⟨h1,h2⟩:=hz.at hg hh
 generalize zAt z g h=v at h2 hK
 generalize hr:z.getD g []=r at h1 h2
 have i1:=idx_map (g:=rowB) h1
 have i2:=idx_map (g:=PV.bool) h2
 refine DC.weaken (DC.intro mixed (fn:=Tryz.f144) rfl rfl rfl ?_)
 (try conv=>whnf);repeat' (first|(apply And.intro<;>try conv=>whnf)|(apply infoT;rfl)|(refine⟨_,_,rfl,idx_map (by with_reducible assumption),rfl,?_⟩;try conv=>whnf)|fail)
 exact⟨.pv (.bool v),4,HAl a b z g,(by refine Wk.of ?_ ?_ rfl rfl rfl<;>repeat' (first|exact trivial|exact WkD.same _|exact WkO.same _ _ rfl|refine⟨?_,?_⟩|fail)),hK⟩
theorem clo_m2 {M:Nat→Prop} {w0:W0} (a b:Act) (z:List (List Bool)) {n m:Nat} (hz:Tab z n m) (g h:Nat) (hg:g<n) (hh:h<m) (base:Nat) (K:DV→DH→Prop) (hK:K (.pv (.bool (zAt z g h))) ⟨4,0,base,objsOf (HAl a b z h)⟩) :
  DC Tryz.prog M w0 145 [.pv (i64 g),.ref 2 0,.ref 3 0] ⟨4,0,base,objsOf (HAl a b z h)⟩ K:=by
 obtain⟨h1,h2⟩:=hz.at hg hh
 generalize zAt z g h=v at h2 hK
 generalize hr:z.getD g []=r at h1 h2
 have i1:=idx_map (g:=rowB) h1
 have i2:=idx_map (g:=PV.bool) h2
 refine DC.weaken (DC.intro mixed (fn:=Tryz.f145) rfl rfl rfl ?_)
 (try conv=>whnf);repeat' (first|(apply And.intro<;>try conv=>whnf)|(apply infoT;rfl)|(refine lin_plan (by kernel_rfl) ?_;try conv=>whnf)|(refine⟨_,_,rfl,idx_map (by with_reducible assumption),rfl,?_⟩;try conv=>whnf)|fail)
 exact⟨.pv (.bool v),4,HAl a b z h,(by refine Wk.of ?_ ?_ rfl rfl rfl<;>repeat' (first|exact trivial|exact WkD.same _|exact WkO.same _ _ rfl|refine⟨?_,?_⟩|fail)),hK⟩
theorem cp_some {M:Nat→Prop} {w0:W0} (a b:Act) (z:List (List Bool)) (k:Nat) (s:Nat) (hs:s<2^8) (p:Nat→Bool) (fid:Nat)
  (hc:∀ e,e<8→s.testBit e=true→∀ (M:Nat→Prop) (w0:W0) (base:Nat) (K:DV→DH→Prop),K (.pv (.bool (p e))) ⟨4,0,base,objsOf (HAl a b z k)⟩→DC Tryz.prog M w0 fid [.pv (i64 e),.ref 2 0,.ref 3 0] ⟨4,0,base,objsOf (HAl a b z k)⟩ K)
  (base:Nat) (K:DV→DH→Prop) (hK:K (.pv (.bool (someN s p 8))) ⟨4,0,base,objsOf (HAl a b z k)⟩) :
  DC Tryz.prog M w0 143 [.pv (u64 s),.clo fid [] [.ref 2 0,.ref 3 0]] ⟨4,0,base,objsOf (HAl a b z k)⟩ K:=by
 refine DC.weaken (DC.intro mixed (fn:=Tryz.f143) rfl rfl rfl ?_)
 try conv=>whnf
 refine⟨{ i:Nat // i≤8∧someN s p i=false },fun i=>[(0,.pv (u64 s)),(1,.clo fid [] [.ref 2 0,.ref 3 0]),(6,.pv (i64 i.1))],fun _=>4,fun _=>HAl a b z k,fun i=>8-i.1,⟨⟨0,Nat.zero_le _,rfl⟩,(by refine Wk.of ?_ ?_ rfl rfl rfl<;>repeat' (first|exact trivial|exact WkD.same _|exact WkO.same _ _ rfl|refine⟨?_,?_⟩|fail))⟩,?_⟩
 rintro⟨i,hi,hn⟩
 have hs64:s<2^64:=Nat.lt_of_lt_of_le hs (by decide)
 (try conv=>whnf);repeat' (first|(apply And.intro<;>try conv=>whnf)|(intro h;try conv=>whnf)|apply True.intro|(apply WhenQ.mk;(try conv=>whnf);rotate_left;(try conv=>whnf);rotate_right)|with_reducible assumption|fail)
 ·exact Int.natCast_nonneg _
 ·rename_i h8
  have hi':i<8:=by have:=of_decide_eq_true (show decide ((i:Int)<8)=true from h8);omega
  have hb:s.testBit i=true:=by
   have h2:(andU (shrU s i) 1==1)=true:=h
   rwa [bit_one hs64 (by omega)] at h2
  refine hc i hi' hb _ _ _ _ ?_
  exact⟨rfl,rfl⟩
 ·have hi':i<8:=by have:=of_decide_eq_true (show decide ((i:Int)<8)=true from h);omega
  have hbit:(andU (shrU s i) 1==1)=s.testBit i:=bit_one hs64 (by omega)
  (try conv=>whnf);repeat' (first|(apply And.intro<;>try conv=>whnf)|(intro h;try conv=>whnf)|with_reducible assumption|fail)
  ·have h2:(bif (andU (shrU s i) 1==1) then p i else false)=true:=h
   rw[hbit] at h2
   have:someN s p 8=true:=anyN_of (p:=fun e=>bif s.testBit e then p e else false) h2 hi'
   rw[this] at hK
   exact⟨.pv (.bool true),4,HAl a b z k,(by refine Wk.of ?_ ?_ rfl rfl rfl<;>repeat' (first|exact trivial|exact WkD.same _|exact WkO.same _ _ rfl|refine⟨?_,?_⟩|fail)),hK⟩
  ·have h2:(bif (andU (shrU s i) 1==1) then p i else false)=false:=h
   rw[hbit] at h2
   exact⟨⟨i+1,hi',anyN_no hn h2⟩,by show 8-(i+1)<8-i;omega,(by refine Wk.of ?_ ?_ rfl rfl rfl<;>repeat' (first|exact trivial|exact WkD.same _|exact WkO.same _ _ rfl|refine WkD.int ?_|refine⟨?_,?_⟩|(refine wrapA ?_ ?_ ?_;(focus simp;done);(focus (try dsimp only);omega);(focus (try dsimp only);omega))|fail))⟩
 ·have hi':i=8:=by have:=of_decide_eq_false (show decide ((i:Int)<8)=false from h);omega
  subst hi'
  rw[hn] at hK
  exact⟨.pv (.bool false),4,HAl a b z k,(by refine Wk.of ?_ ?_ rfl rfl rfl<;>repeat' (first|exact trivial|exact WkD.same _|exact WkO.same _ _ rfl|refine⟨?_,?_⟩|fail)),hK⟩
theorem DC.callA {P:Program} {M:Nat→Prop} {w0:W0} {f:FuncId} {args:List DV} {L:DH} {K:DV→DH→Prop} {q:DV} (n:Nat) (Hl:List (Nat×DObj)) (hag:agr (objsOf Hl) L.get n) (hu:wkU n [] Hl=true) (hnx:Nat.ble n L.next=true) (hlo:Nat.ble L.lo n=true) (hargs:DV.unders n args=true)
  (h:∀ M (K':DV→DH→Prop),K' q ⟨n,L.lo,n,objsOf Hl⟩→DC P M w0.no f args ⟨n,L.lo,n,objsOf Hl⟩ K') (hK:K q L):DC P M w0 f args L K:=by
 simp only[wkU,List.all_nil,Bool.true_and,List.all_eq_true,Bool.and_eq_true] at hu
 exact DC.callS n Hl (fun k hk=>agr_lt hag k hk) (fun q hq=>⟨by have:=(hu q hq).1;rwa [Nat.blt_eq] at this,(hu q hq).2⟩) hnx hlo hargs h hK
def relA (a:Act) (i e:Nat):Nat:=(a.rel.getD i []).getD e 0
def misF (a b:Act) (z:List (List Bool)) (e f i g:Nat):Bool:=bif (relA a i e).testBit g then !someN (relA b i f) (fun h=>zAt z g h) 8 else false
def misB (a b:Act) (z:List (List Bool)) (e f i h:Nat):Bool:=bif (relA b i f).testBit h then !someN (relA a i e) (fun g=>zAt z g h) 8 else false
def misR (a b:Act) (z:List (List Bool)) (e f i:Nat):Bool:=bif anyN (misF a b z e f i) a.pre.length then true else anyN (misB a b z e f i) b.pre.length
def mtI (a b:Act) (z:List (List Bool)) (e f:Nat):Bool:=!anyN (misR a b z e f) a.rel.length
theorem Shp.at {a:Act} {n i e:Nat} (hA:Shp a n) (hi:i<a.rel.length) (he:e<n):(a.rel.map rowPV)[i]? = some (rowPV (a.rel.getD i []))∧((a.rel.getD i []).map u64)[e]? = some (u64 (relA a i e))∧relA a i e<2^n:=by
 have h1:a.rel[i]? = some (a.rel.getD i []):=getD_mem hi
 have hm:=List.mem_iff_getElem?.2 ⟨_,h1⟩
 have h2:(a.rel.getD i [])[e]? = some (relA a i e):=getD_mem (by rw[hA.rows _ hm];exact he)
 exact⟨idx_map h1,idx_map h2,hA.bits _ hm _ (List.mem_iff_getElem?.2 ⟨_,h2⟩)⟩
theorem bitLtN {s n k:Nat} (hs:s<2^n) (h:s.testBit k=true):k<n:=by
 by_cases q:k<n
 ·exact q
 ·have:=Nat.testBit_lt_two_pow (Nat.lt_of_lt_of_le hs (Nat.pow_le_pow_right (by decide) (by omega:n≤k)))
  rw[this] at h;cases h
theorem cp_matched (a b:Act) (n m:Nat) (hA:Shp a n) (hB:Shp b m) (hr:a.rel.length=b.rel.length) (z:List (List Bool)) (hz:Tab z n m) (e f:Nat) (he:e<n) (hf:f<m):PureFn Tryz.prog 108 [a.pv,b.pv,tabPV z,i64 e,i64 f] (.bool (mtI a b z e f)):=by
 have n8:=hA.n8
 have m8:=hB.n8
 have hpa:=hA.pre
 have hpb:=hB.pre
 refine PureFn.intro mixed (fn:=Tryz.f108) rfl rfl rfl fun M w0 => ?_
 try conv=>whnf
 refine⟨{ i:Nat // i≤a.rel.length∧anyN (misR a b z e f) i=false },fun i=>[(3,.pv (i64 e)),(4,.pv (i64 f)),(5,.ref 0 0),(6,.ref 1 0),(7,.ref 2 0),(16,.pv (i64 (a.rel.map rowPV).length)),(17,.pv (i64 i.1))],fun _=>3,fun _=>[(0,.var (cellsA a)),(1,.var (cellsA b)),(2,.var [.pv (tabPV z)])],fun i=>a.rel.length-i.1,⟨⟨0,Nat.zero_le _,rfl⟩,(by refine Wk.of ?_ ?_ rfl rfl rfl<;>repeat' (first|exact trivial|exact WkD.same _|exact WkO.same _ _ rfl|refine⟨?_,?_⟩|fail))⟩,?_⟩
 rintro⟨i,hi,hni⟩
 (try conv=>whnf);repeat' (first|(apply And.intro<;>try conv=>whnf)|(intro h;try conv=>whnf)|fail)
 ·have hi':i<a.rel.length:=by simpa using lt_dec h
  obtain⟨a1,a2,a3⟩:=hA.at hi' he
  obtain⟨b1,b2,b3⟩:=hB.at (by omega:i<b.rel.length) hf
  have hsa:relA a i e<2^8:=Nat.lt_of_lt_of_le a3 (Nat.pow_le_pow_right (by decide) n8)
  have hsb:relA b i f<2^8:=Nat.lt_of_lt_of_le b3 (Nat.pow_le_pow_right (by decide) m8)
  refine⟨{ g:Nat // g≤a.pre.length∧anyN (misF a b z e f i) g=false },fun g=>[(3,.pv (i64 e)),(4,.pv (i64 f)),(5,.ref 0 0),(6,.ref 1 0),(7,.ref 2 0),(16,.pv (i64 (a.rel.map rowPV).length)),(17,.pv (i64 i)),(11,.pv (i64 i)),(22,.pv (i64 (a.pre.map fpv).length)),(23,.pv (i64 g.1))],fun _=>3,fun _=>[(0,.var (cellsA a)),(1,.var (cellsA b)),(2,.var [.pv (tabPV z)])],fun g=>a.pre.length-g.1,⟨⟨0,Nat.zero_le _,rfl⟩,(by refine Wk.of ?_ ?_ rfl rfl rfl<;>repeat' (first|exact trivial|exact WkD.same _|exact WkO.same _ _ rfl|refine⟨?_,?_⟩|fail))⟩,?_⟩
  rintro⟨g,hg,hng⟩
  (try conv=>whnf);repeat' (first|(apply And.intro<;>try conv=>whnf)|(intro h;try conv=>whnf)|fail)
  ·have hg':g<a.pre.length:=by simpa using lt_dec h
   refine⟨Plan.lin 0 25,[22],by kernel_rfl,?_⟩
   have hbit:(andU (shrU (relA a i e) g) 1==1)=(relA a i e).testBit g:=bit_one (Nat.lt_of_lt_of_le hsa (by decide)) (by omega)
   have hso:=fun (M:Nat→Prop) (w0:W0) (base:Nat) (K:DV→DH→Prop)=>cp_some (M:=M) (w0:=w0) a b z g (relA b i f) hsb (fun h=>zAt z g h) 144 (fun h _ hb M w0 base K hK=>clo_m1 a b z hz g h (by omega) (bitLtN b3 hb) base K hK) base K
   generalize hra:a.rel.getD i []=ra at a1 a2
   generalize hrb:b.rel.getD i []=rb at b1 b2
   (try conv=>whnf);repeat' (first|(apply And.intro<;>try conv=>whnf)|(intro h;try conv=>whnf)|apply True.intro|(apply infoT;rfl)|(apply WhenQ.mk;(try conv=>whnf);rotate_left;(try conv=>whnf);rotate_right)|with_reducible assumption|(refine⟨i,_,rfl,a1,rfl,?_⟩;try conv=>whnf)|(refine⟨i,_,rfl,b1,rfl,?_⟩;try conv=>whnf)|(refine⟨e,_,rfl,a2,rfl,?_⟩;try conv=>whnf)|(refine⟨f,_,rfl,b2,rfl,?_⟩;try conv=>whnf)|(refine DC.callA (q:=.pv (.bool (someN (relA b i f) (fun h=>zAt z g h) 8))) 4 (HAl a b z g) ⟨rfl,rfl,rfl,rfl,trivial⟩ rfl rfl rfl rfl (fun M' K' hK'=>hso M' _ _ K' hK') ?_;try conv=>whnf)|fail)
   ·exact Int.natCast_nonneg _
   ·have h2:(bif (andU (shrU (relA a i e) g) 1==1) then !someN (relA b i f) (fun h=>zAt z g h) 8 else false)=true:=h
    rw[hbit] at h2
    have h3:misF a b z e f i g=true:=h2
    have h4:misR a b z e f i=true:=by rw[misR,anyN_of h3 hg'];rfl
    exact le_bool (by rw[mtI,anyN_of h4 hi'];rfl)
   ·have h2:(bif (andU (shrU (relA a i e) g) 1==1) then !someN (relA b i f) (fun h=>zAt z g h) 8 else false)=false:=h
    rw[hbit] at h2
    exact⟨⟨g+1,hg',anyN_no hng h2⟩,by show a.pre.length-(g+1)<a.pre.length-g;omega,(by refine Wk.of ?_ ?_ rfl rfl rfl<;>repeat' (first|exact trivial|exact WkD.same _|exact WkO.same _ _ rfl|refine WkD.int ?_|refine⟨?_,?_⟩|(refine wrapA ?_ ?_ ?_;(focus simp;done);(focus (try dsimp only);omega);(focus (try dsimp only);omega))|fail))⟩
  ·have hg':g=a.pre.length:=by have:=ge_dec (m:=(a.pre.map fpv).length) h (by simpa using hg);simpa using this
   subst hg'
   refine⟨{ k:Nat // k≤b.pre.length∧anyN (misB a b z e f i) k=false },fun k=>[(3,.pv (i64 e)),(4,.pv (i64 f)),(5,.ref 0 0),(6,.ref 1 0),(7,.ref 2 0),(16,.pv (i64 (a.rel.map rowPV).length)),(17,.pv (i64 i)),(11,.pv (i64 i)),(54,.pv (i64 (b.pre.map fpv).length)),(55,.pv (i64 k.1))],fun _=>3,fun _=>[(0,.var (cellsA a)),(1,.var (cellsA b)),(2,.var [.pv (tabPV z)])],fun k=>b.pre.length-k.1,⟨⟨0,Nat.zero_le _,rfl⟩,(by refine Wk.of ?_ ?_ rfl rfl rfl<;>repeat' (first|exact trivial|exact WkD.same _|exact WkO.same _ _ rfl|refine⟨?_,?_⟩|fail))⟩,?_⟩
   rintro⟨k,hk,hnk⟩
   (try conv=>whnf);repeat' (first|(apply And.intro<;>try conv=>whnf)|(intro h;try conv=>whnf)|fail)
   ·have hk':k<b.pre.length:=by simpa using lt_dec h
    refine⟨Plan.lin 0 25,[22],by kernel_rfl,?_⟩
    have hbit:(andU (shrU (relA b i f) k) 1==1)=(relA b i f).testBit k:=bit_one (Nat.lt_of_lt_of_le hsb (by decide)) (by omega)
    have hso:=fun (M:Nat→Prop) (w0:W0) (base:Nat) (K:DV→DH→Prop)=>cp_some (M:=M) (w0:=w0) a b z k (relA a i e) hsa (fun g=>zAt z g k) 145 (fun g _ hb M w0 base K hK=>clo_m2 a b z hz g k (bitLtN a3 hb) (by omega) base K hK) base K
    generalize hra:a.rel.getD i []=ra at a1 a2
    generalize hrb:b.rel.getD i []=rb at b1 b2
    (try conv=>whnf);repeat' (first|(apply And.intro<;>try conv=>whnf)|(intro h;try conv=>whnf)|apply True.intro|(apply infoT;rfl)|(apply WhenQ.mk;(try conv=>whnf);rotate_left;(try conv=>whnf);rotate_right)|with_reducible assumption|(refine⟨i,_,rfl,a1,rfl,?_⟩;try conv=>whnf)|(refine⟨i,_,rfl,b1,rfl,?_⟩;try conv=>whnf)|(refine⟨e,_,rfl,a2,rfl,?_⟩;try conv=>whnf)|(refine⟨f,_,rfl,b2,rfl,?_⟩;try conv=>whnf)|(refine DC.callA (q:=.pv (.bool (someN (relA a i e) (fun g=>zAt z g k) 8))) 4 (HAl a b z k) ⟨rfl,rfl,rfl,rfl,trivial⟩ rfl rfl rfl rfl (fun M' K' hK'=>hso M' _ _ K' hK') ?_;try conv=>whnf)|fail)
    ·exact Int.natCast_nonneg _
    ·have h2:(bif (andU (shrU (relA b i f) k) 1==1) then !someN (relA a i e) (fun g=>zAt z g k) 8 else false)=true:=h
     rw[hbit] at h2
     have h3:misB a b z e f i k=true:=h2
     have h4:misR a b z e f i=true:=by rw[misR,anyN_of h3 hk'];cases anyN (misF a b z e f i) a.pre.length<;>rfl
     exact le_bool (by rw[mtI,anyN_of h4 hi'];rfl)
    ·have h2:(bif (andU (shrU (relA b i f) k) 1==1) then !someN (relA a i e) (fun g=>zAt z g k) 8 else false)=false:=h
     rw[hbit] at h2
     exact⟨⟨k+1,hk',anyN_no hnk h2⟩,by show b.pre.length-(k+1)<b.pre.length-k;omega,(by refine Wk.of ?_ ?_ rfl rfl rfl<;>repeat' (first|exact trivial|exact WkD.same _|exact WkO.same _ _ rfl|refine WkD.int ?_|refine⟨?_,?_⟩|(refine wrapA ?_ ?_ ?_;(focus simp;done);(focus (try dsimp only);omega);(focus (try dsimp only);omega))|fail))⟩
   ·have hk':k=b.pre.length:=by have:=ge_dec (m:=(b.pre.map fpv).length) h (by simpa using hk);simpa using this
    subst hk'
    have hag:=hA.ag
    exact⟨⟨i+1,hi',anyN_no hni (by rw[misR,hng,hnk];rfl)⟩,by show a.rel.length-(i+1)<a.rel.length-i;omega,(by refine Wk.of ?_ ?_ rfl rfl rfl<;>repeat' (first|exact trivial|exact WkD.same _|exact WkO.same _ _ rfl|refine WkD.int ?_|refine⟨?_,?_⟩|(refine wrapA ?_ ?_ ?_;(focus simp;done);(focus (try dsimp only);omega);(focus (try dsimp only);omega))|fail))⟩
 ·have hi':i=a.rel.length:=by have:=ge_dec (m:=(a.rel.map rowPV).length) h (by simpa using hi);simpa using this
  subst hi'
  refine le_bool ?_
  rw[mtI,hni];rfl
set_option maxHeartbeats 400000
def z0B (a b:Act) (e f:Nat):Bool:=bif eqL asS (a.post.getD e []) (b.post.getD f []) then same (a.pre.getD e []) (b.pre.getD f []) else false
def row0 (a b:Act) (e:Nat):List Bool:=(List.range b.pre.length).map (z0B a b e)
def tab0 (a b:Act):List (List Bool):=(List.range a.pre.length).map (row0 a b)
def clrT (z:List (List Bool)) (e f:Nat):List (List Bool):=z.set e ((z.getD e []).set f false)
def stepZ (a b:Act) (e f:Nat) (s:List (List Bool)×Bool):List (List Bool)×Bool:=bif (bif zAt s.1 e f then !mtI a b s.1 e f else false) then (clrT s.1 e f,true) else s
def rowZ (a b:Act) (e:Nat):Nat→List (List Bool)×Bool→List (List Bool)×Bool
 |0,s=>s
 |k+1,s=>stepZ a b e k (rowZ a b e k s)
def passZ (a b:Act) (m:Nat):Nat→List (List Bool)×Bool→List (List Bool)×Bool
 |0,s=>s
 |k+1,s=>rowZ a b k m (passZ a b m k s)
def iterZ (a b:Act) (n m:Nat):Nat→List (List Bool)→List (List Bool)
 |0,z=>z
 |k+1,z=>bif (passZ a b m n (z,false)).2 then iterZ a b n m k (passZ a b m n (z,false)).1 else z
def cntR (p:Nat→Bool):Nat→Nat
 |0=>0
 |n+1=>cntR p n+(bif p n then 1 else 0)
theorem cntR_le {p q:Nat→Bool}:∀ {n:Nat},(∀ k,k<n→q k=true→p k=true)→cntR q n≤cntR p n
 |0,_=>Nat.le_refl _
 |n+1,h=>by
  have ih:=cntR_le (n:=n) fun k hk=>h k (by omega)
  have hn:=h n (by omega)
  rw[cntR,cntR]
  cases hq:q n with
  |true=>rw[hn hq];simp only[cond_true];omega
  |false=>cases p n<;>simp only[cond_true,cond_false]<;>omega
theorem cntR_lt {p q:Nat→Bool} {k:Nat} (hp:p k=true) (hq:q k=false):∀ {n:Nat},k<n→(∀ k,k<n→q k=true→p k=true)→cntR q n<cntR p n
 |n+1,hk,h=>by
  rw[cntR,cntR]
  by_cases e:k=n
  ·subst e
   have ih:=cntR_le (n:=k) fun j hj=>h j (by omega)
   rw[hp,hq];simp only[cond_true,cond_false];omega
  ·have ih:=cntR_lt hp hq (n:=n) (by omega) fun j hj=>h j (by omega)
   have hn:=h n (by omega)
   cases hqn:q n with
   |true=>rw[hn hqn];simp only[cond_true];omega
   |false=>cases p n<;>simp only[cond_true,cond_false]<;>omega
def cntZ (z:List (List Bool)) (n m:Nat):Nat:=cntR (fun k=>zAt z (k / m) (k % m)) (n*m)
theorem zAt_clr (z:List (List Bool)) (e f e' f':Nat):zAt (clrT z e f) e' f'=true→zAt z e' f'=true∧¬ (e'=e∧f'=f):=by
 unfold zAt clrT
 intro h
 simp only[List.getD_eq_getElem?_getD,List.getElem?_set] at h ⊢
 by_cases q:e=e'
 ·subst q
  by_cases q2:e<z.length
  ·rw[if_pos rfl,if_pos q2] at h
   simp only[Option.getD_some,List.getElem?_set] at h
   by_cases q3:f=f'
   ·subst q3
    rw[if_pos rfl] at h
    split at h<;>cases h
   ·rw[if_neg q3] at h
    exact⟨h,fun g=>q3 g.2.symm⟩
  ·rw[if_pos rfl,if_neg q2] at h
   cases h
 ·rw[if_neg q] at h
  exact⟨h,fun g=>q g.1.symm⟩
theorem Tab.clr {z:List (List Bool)} {n m:Nat} (hz:Tab z n m) {e:Nat} (f:Nat) (he:e<n):Tab (clrT z e f) n m:=by
 refine⟨by rw[clrT,List.length_set,hz.len],fun r hr => ?_⟩
 rcases List.mem_or_eq_of_mem_set hr with hr|hr
 ·exact hz.row r hr
 ·have he:e<z.length:=by rw[hz.len];exact he
  rw[hr,List.length_set]
  exact hz.row _ (by rw[List.getD_eq_getElem?_getD,List.getElem?_eq_getElem he];exact List.getElem_mem he)
structure OkS (n m:Nat) (z:List (List Bool)) (s:List (List Bool)×Bool):Prop where
 tab:Tab s.1 n m
 sub:∀ e f,zAt s.1 e f=true→zAt z e f=true
 yes:s.2=true→cntZ s.1 n m<cntZ z n m
 no:s.2=false→s.1=z
theorem OkS.step {a b:Act} {n m:Nat} {z:List (List Bool)} {s:List (List Bool)×Bool} (h:OkS n m z s) {e f:Nat} (he:e<n) (hf:f<m):OkS n m z (stepZ a b e f s):=by
 unfold stepZ
 cases hz:zAt s.1 e f with
 |false=>exact h
 |true =>
  cases hm:mtI a b s.1 e f with
  |true=>exact h
  |false =>
   show OkS n m z (clrT s.1 e f,true)
   refine⟨h.tab.clr f he,fun e' f' h'=>h.sub e' f' (zAt_clr _ _ _ _ _ h').1,fun _ => ?_,fun h'=>by cases h'⟩
   have hk:e*m+f<n*m:=by
    have:=Nat.mul_le_mul_right m (show e+1≤n from he)
    rw[Nat.add_mul,Nat.one_mul] at this
    omega
   have hd:(e*m+f) / m=e:=by rw[Nat.add_comm,Nat.add_mul_div_right _ _ (by omega),Nat.div_eq_of_lt hf,Nat.zero_add]
   have hr:(e*m+f) % m=f:=by rw[Nat.add_comm,Nat.add_mul_mod_self_right,Nat.mod_eq_of_lt hf]
   refine Nat.lt_of_lt_of_le (cntR_lt (k:=e*m+f) (p:=fun k=>zAt s.1 (k / m) (k % m)) (by simp only[hd,hr];exact hz) ?_ hk fun k _ hq=>(zAt_clr _ _ _ _ _ hq).1) (cntR_le fun k _ hq=>h.sub _ _ hq)
   simp only[hd,hr]
   cases hq:zAt (clrT s.1 e f) e f with
   |false=>rfl
   |true=>exact absurd ⟨rfl,rfl⟩ (zAt_clr _ _ _ _ _ hq).2
theorem OkS.row {a b:Act} {n m:Nat} {z:List (List Bool)} {e:Nat} (he:e<n):∀ {k:Nat} {s:List (List Bool)×Bool},OkS n m z s→k≤m→OkS n m z (rowZ a b e k s)
 |0,_,h,_=>h
 |k+1,_,h,hk=>(h.row he (k:=k) (by omega)).step he (by omega)
theorem OkS.pass {a b:Act} {n m:Nat} {z:List (List Bool)}:∀ {k:Nat} {s:List (List Bool)×Bool},OkS n m z s→k≤n→OkS n m z (passZ a b m k s)
 |0,_,h,_=>h
 |k+1,_,h,hk=>(h.pass (k:=k) (by omega)).row (by omega) (Nat.le_refl m)
theorem OkS.start {n m:Nat} {z:List (List Bool)} (hz:Tab z n m):OkS n m z (z,false):=⟨hz,fun _ _ h=>h,fun h=>(by cases h),fun _=>rfl⟩
def alkI (a b:Act) (z:List (List Bool)):List (List Bool):=iterZ a b a.pre.length b.pre.length (cntZ z a.pre.length b.pre.length+1) z
theorem iter_more {a b:Act} {n m:Nat}:∀ (k:Nat) (z:List (List Bool)),Tab z n m→cntZ z n m<k→iterZ a b n m k z=iterZ a b n m (cntZ z n m+1) z
 |k+1,z,hz,hk=>by
  have hO:=(OkS.start hz).pass (a:=a) (b:=b) (k:=n) (Nat.le_refl n)
  rw[iterZ,iterZ]
  cases h:(passZ a b m n (z,false)).2 with
  |false=>rfl
  |true =>
   have hc:=hO.yes h
   rw[cond_true,cond_true,iter_more k _ hO.tab (by omega)]
   by_cases e:cntZ (passZ a b m n (z,false)).1 n m+1=cntZ z n m
   ·rw[e]
   ·exact (iter_more (cntZ z n m) _ hO.tab hc).symm
theorem alk_step {a b:Act} {z:List (List Bool)} (hz:Tab z a.pre.length b.pre.length):alkI a b z=bif (passZ a b b.pre.length a.pre.length (z,false)).2 then alkI a b (passZ a b b.pre.length a.pre.length (z,false)).1 else z:=by
 have hO:=(OkS.start hz).pass (a:=a) (b:=b) (k:=a.pre.length) (Nat.le_refl _)
 rw[alkI,iterZ]
 cases h:(passZ a b b.pre.length a.pre.length (z,false)).2 with
 |false=>rfl
 |true=>exact iter_more _ _ hO.tab (hO.yes h)
theorem tab0_tab (a b:Act):Tab (tab0 a b) a.pre.length b.pre.length:=⟨by simp[tab0],fun r hr=>by
 obtain⟨e,_,rfl⟩:=List.mem_map.1 hr
 simp[row0]⟩
theorem iter_tab {a b:Act} {n m:Nat}:∀ (k:Nat) (z:List (List Bool)),Tab z n m→Tab (iterZ a b n m k z) n m
 |0,_,hz=>hz
 |k+1,z,hz=>by
  have hO:=(OkS.start hz).pass (a:=a) (b:=b) (k:=n) (Nat.le_refl n)
  rw[iterZ]
  cases (passZ a b m n (z,false)).2 with
  |false=>exact hz
  |true=>exact iter_tab k _ hO.tab
theorem alk_tab (a b:Act):Tab (alkI a b (tab0 a b)) a.pre.length b.pre.length:=iter_tab _ _ (tab0_tab a b)
set_option maxHeartbeats 4000000
def colZ (z:List (List Bool)) (e:Nat):List PV:=(z.getD e []).map PV.bool
def lenZ (z:List (List Bool)) (e:Nat):Nat:=(colZ z e).length
def AT (a b:Act) (n:Nat) (z:List (List Bool)):List (Nat×DObj):=(0,.var (cellsA a))::(1,.var (cellsA b))::(2,.var (tabC n (lenZ z)))::tabO n (colZ z)
theorem AT_get {a b:Act} {n e:Nat} {z:List (List Bool)} (h:e<n):objsOf (AT a b n z) (e+8)=some (.arr 1 (colZ z e)):=tabO_get h
theorem AT_in {a b:Act} {n nx:Nat} {z:List (List Bool)} (hn:n≤8) (hnx:16≤nx):∀ q,q∈AT a b n z→q.1<nx∧q.2.under nx=true:=fun q hq=>by
 rcases List.mem_cons.1 hq with rfl|hq
 ·exact⟨by show 0<nx;omega,rfl⟩
 rcases List.mem_cons.1 hq with rfl|hq
 ·exact⟨by show 1<nx;omega,rfl⟩
 rcases List.mem_cons.1 hq with rfl|hq
 ·refine⟨by show 2<nx;omega,unders_mem.2 fun d hd => ?_⟩
  obtain⟨e,he,rfl⟩:=List.mem_map.1 hd
  have he:=List.mem_range.1 he
  show Nat.blt (e+8) nx=true
  rw[Nat.blt_eq];omega
 obtain⟨e,he,rfl⟩:=List.mem_map.1 hq
 have he:=List.mem_range.1 he
 exact⟨by show e+8<nx;omega,rfl⟩
theorem AT_all {a b:Act} {n nx:Nat} {z:List (List Bool)} {g:Nat→Option DObj} {L:DH} (hn:n≤8) (hnx:16≤nx) (h0:g 0=some (.var (cellsA a))) (h1:g 1=some (.var (cellsA b))) (h2:g 2=some (.var (tabC n (lenZ z)))) (h:∀ e,e<n→g (e+8)=some (.arr 1 (colZ z e))) :
  ∀ q,q∈AT a b n z→(g q.1=some q.2∨(g q.1=none∧L.next≤q.1∧∃ sz,q.2=.arr sz []))∧q.1<nx∧q.2.under nx=true:=fun q hq=>by
 refine⟨.inl ?_,AT_in hn hnx q hq⟩
 rcases List.mem_cons.1 hq with rfl|hq
 ·exact h0
 rcases List.mem_cons.1 hq with rfl|hq
 ·exact h1
 rcases List.mem_cons.1 hq with rfl|hq
 ·exact h2
 obtain⟨e,he,rfl⟩:=List.mem_map.1 hq
 exact h e (List.mem_range.1 he)
theorem AT_mid {a b:Act} {n nx:Nat} (hn:n≤8) (hnx:16≤nx) {z:List (List Bool)} {g:Nat→Option DObj} {L:DH} (h:∀ k,k<16→g k=objsOf (AT a b n z) k) :
  ∀ q,q∈AT a b n z→(g q.1=some q.2∨(g q.1=none∧L.next≤q.1∧∃ sz,q.2=.arr sz []))∧q.1<nx∧q.2.under nx=true :=
 AT_all (g:=g) hn hnx ((h 0 (by omega)).trans rfl) ((h 1 (by omega)).trans rfl) ((h 2 (by omega)).trans rfl) fun e he=>(h (e+8) (by omega)).trans (AT_get he)
def nilT (n:Nat):List (List Bool):=List.replicate n []
theorem colZ_nil (n e:Nat):colZ (nilT n) e=[]:=by
 unfold colZ nilT
 rw[List.getD_eq_getElem?_getD,List.getElem?_replicate]
 split<;>rfl
theorem AT_start {a b:Act} {n:Nat} (hn:n≤8) {L:DH} (h0:L.get 0=some (.var (cellsA a))) (h1:L.get 1=some (.var (cellsA b))) (h2:L.get 2=some (.var (List.replicate n (.pv .nil)))) (hno:∀ k,3≤k→L.get k=none) (hnx:L.next≤8) :
  ∀ q,q∈AT a b n (nilT n)→WkO L (AT a b n (nilT n)) q.1 q.2∧(L.get q.1=none→L.next≤q.1)∧q.1<16∧q.2.under 16=true:=fun q hq=>by
 refine⟨?_,?_,AT_in hn (Nat.le_refl 16) q hq⟩
 ·rcases List.mem_cons.1 hq with rfl|hq
  ·exact .same _ _ h0
  rcases List.mem_cons.1 hq with rfl|hq
  ·exact .same _ _ h1
  rcases List.mem_cons.1 hq with rfl|hq
  ·refine .var 2 _ _ h2 (by rw[tabC_len,List.length_replicate]) fun i d d' hd hd' => ?_
   have hi:i<n:=by
    have:=(List.getElem?_eq_some_iff.1 hd).1
    simpa using this
   rw[List.getElem?_replicate,if_pos hi] at hd
   rw[tabC_get hi] at hd'
   obtain rfl:=Option.some.inj hd
   obtain rfl:=Option.some.inj hd'
   rw[lenZ,colZ_nil]
   exact .new _ (i+8) 1 (.inl rfl) (hno _ (by omega)) (by rw[AT_get hi,colZ_nil])
  obtain⟨e,he,rfl⟩:=List.mem_map.1 hq
  show WkO L _ (e+8) (.arr 1 (colZ (nilT n) e))
  rw[colZ_nil]
  exact .new _ 1 (hno _ (by show 3≤e+8;omega))
 ·rcases List.mem_cons.1 hq with rfl|hq
  ·intro h;rw[h0] at h;cases h
  rcases List.mem_cons.1 hq with rfl|hq
  ·intro h;rw[h1] at h;cases h
  rcases List.mem_cons.1 hq with rfl|hq
  ·intro h;rw[h2] at h;cases h
  obtain⟨e,he,rfl⟩:=List.mem_map.1 hq
  intro _
  show L.next≤e+8
  omega
def bldT (a b:Act) (e f:Nat):List (List Bool):=(List.range a.pre.length).map fun e'=>if e'<e then row0 a b e' else if e'=e then (row0 a b e).take f else []
theorem bld_at {a b:Act} {e f e':Nat} (h:e'<a.pre.length):(bldT a b e f).getD e' []=if e'<e then row0 a b e' else if e'=e then (row0 a b e).take f else []:=by
 rw[bldT,List.getD_eq_getElem?_getD,List.getElem?_map,List.getElem?_range h];rfl
theorem bld_nil (a b:Act):bldT a b 0 0=nilT a.pre.length:=by
 apply List.ext_getElem?
 intro i
 rw[bldT,nilT,List.getElem?_map,List.getElem?_replicate]
 by_cases h:i<a.pre.length
 ·rw[List.getElem?_range h,if_pos h]
  simp
 ·rw[List.getElem?_eq_none (by simp;omega),if_neg h];rfl
theorem row0_len (a b:Act) (e:Nat):(row0 a b e).length=b.pre.length:=by simp[row0]
theorem bld_next (a b:Act) (e:Nat):bldT a b e b.pre.length=bldT a b (e+1) 0:=by
 refine List.map_congr_left fun e' _ => ?_
 have h1:(row0 a b e).take b.pre.length=row0 a b e:=by rw[← row0_len a b e,List.take_length]
 by_cases h:e'<e
 ·rw[if_pos h,if_pos (by omega)]
 ·by_cases h2:e'=e
  ·subst h2
   rw[if_neg h,if_pos rfl,if_pos (by omega),h1]
  ·rw[if_neg h,if_neg h2,if_neg (by omega)]
   simp
theorem bld_all (a b:Act):bldT a b a.pre.length 0=tab0 a b:=List.map_congr_left fun e' h=>by rw[if_pos (List.mem_range.1 h)]
theorem bld_cell {a b:Act} {e f:Nat} (he:e<a.pre.length) (hf:f<b.pre.length):colZ (bldT a b e (f+1)) e=colZ (bldT a b e f) e++[.bool (z0B a b e f)]:=by
 have h:(row0 a b e)[f]? = some (z0B a b e f):=by rw[row0,List.getElem?_map,List.getElem?_range hf];rfl
 rw[colZ,colZ,bld_at he,bld_at he,if_neg (Nat.lt_irrefl e),if_pos rfl,if_neg (Nat.lt_irrefl e),if_pos rfl,tak_map h]
theorem bld_else {a b:Act} {e f e':Nat} (h:e'≠e):colZ (bldT a b e (f+1)) e'=colZ (bldT a b e f) e':=by
 by_cases he:e'<a.pre.length
 ·rw[colZ,colZ,bld_at he,bld_at he,if_neg h,if_neg h]
 ·rw[colZ,colZ,List.getD_eq_getElem?_getD,List.getD_eq_getElem?_getD,List.getElem?_eq_none (by simp[bldT];omega),List.getElem?_eq_none (by simp[bldT];omega)]
theorem frz1s_rows (col:Nat→List PV):∀ (l:List Nat) (L:DH) (K:List PV→DH→Prop),(∀ e,e∈l→L.get (e+8)=some (.arr 1 (col e))∨L.get (e+8)=some (.fz (col e)))→L.lo≤8→(∀ L',K (l.map fun e=>.sl (col e)) L')→frz1s (l.map fun e=>.buf (e+8) (col e).length) L K
 | [],L,_,_,_,hK=>hK L
 |e::r,L,K,h,hlo,hK=>by
  rw[List.map_cons,frz1s,frz1]
  rcases h e (by simp) with h1|h1
  ·rw[h1]
   refine⟨rfl,by rw[Nat.ble_eq];omega,frz1s_rows col r _ _ (fun e' he' => ?_) hlo fun L'=>hK L'⟩
   by_cases q:e'=e
   ·subst q;exact .inr (DH.put_same L _ _)
   ·rw[DH.put_ne L _ (by omega)];exact h e' (by simp[he'])
  ·rw[h1]
   exact⟨rfl,frz1s_rows col r _ _ (fun e' he'=>h e' (by simp[he'])) hlo fun L'=>hK L'⟩
theorem brw1s_rows (col:Nat→List PV) (L:DH):∀ (l:List Nat) (K:List PV→Prop),(∀ e,e∈l→L.get (e+8)=some (.arr 1 (col e)))→K (l.map fun e=>.sl (col e))→brw1s (l.map fun e=>.buf (e+8) (col e).length) L K
 | [],_,_,hK=>hK
 |e::r,K,h,hK=>by
  rw[List.map_cons,brw1s,brw1,h e (by simp)]
  exact⟨rfl,brw1s_rows col L r _ (fun e' he'=>h e' (by simp[he'])) hK⟩
theorem tabPV_rows {z:List (List Bool)} {n:Nat} (h:z.length=n):tabPV z=.sl ((List.range n).map fun e=>.sl (colZ z e)):=by
 rw[tabPV]
 congr 1
 apply List.ext_getElem?
 intro i
 rw[List.getElem?_map,List.getElem?_map]
 by_cases hi:i<n
 ·rw[List.getElem?_range hi,getD_mem (d:=[]) (by rw[h];exact hi)];rfl
 ·rw[List.getElem?_eq_none (by rw[h];omega),List.getElem?_eq_none (by simp;omega)];rfl
theorem mt_brws {a b:Act} {n:Nat} {Z:List (List Bool)} {L:DH} (h2:L.get 2=some (.var (tabC n (lenZ Z)))) (hr:∀ e,e<n→L.get (e+8)=some (.arr 1 (colZ Z e))) (hz:tabPV Z=.sl ((List.range n).map fun e=>.sl (colZ Z e))) (e f:Nat) :
  brws [.agg (cellsA a),.agg (cellsA b),.vbuf 2 n,.pv (i64 e),.pv (i64 f)] L fun qs=>PLes qs [a.pv,b.pv,tabPV Z,i64 e,i64 f]:=by
 rw[hz]
 show (match L.get 2 with
   |some (.var cs)=>brw1s cs L (fun ps=>n=ps.length∧ps.all PV.one=true∧PLes [a.pv,b.pv,.sl ps,i64 e,i64 f] [a.pv,b.pv,.sl ((List.range n).map fun e=>.sl (colZ Z e)),i64 e,i64 f])
   |_=>False)
 rw[h2]
 refine brw1s_rows (colZ Z) L (List.range n) _ (fun e he=>hr e (List.mem_range.1 he)) ⟨by simp,by simp[PV.one],.refl _,.refl _,.refl _,.refl _,.refl _,trivial⟩
theorem colZ_clr {z:List (List Bool)} {e f:Nat} (he:e<z.length):colZ (clrT z e f) e=(colZ z e).set f (.bool false):=by
 unfold colZ clrT
 rw[List.getD_eq_getElem?_getD,List.getElem?_set,if_pos rfl,if_pos he,Option.getD_some,List.map_set]
theorem colZ_cle {z:List (List Bool)} {e f e':Nat} (h:e'≠e):colZ (clrT z e f) e'=colZ z e':=by
 unfold colZ clrT
 rw[List.getD_eq_getElem?_getD,List.getElem?_set,if_neg (fun q=>h q.symm),← List.getD_eq_getElem?_getD]
theorem lenZ_clr (z:List (List Bool)) (e f e':Nat):lenZ (clrT z e f) e'=lenZ z e':=by
 by_cases h:e'=e
 ·subst h
  by_cases he:e'<z.length
  ·rw[lenZ,lenZ,colZ_clr he,List.length_set]
  ·have:clrT z e' f=z:=by rw[clrT,List.set_eq_of_length_le (by omega)]
   rw[this]
 ·rw[lenZ,lenZ,colZ_cle h]
theorem tabC_clr (z:List (List Bool)) (n e f:Nat):tabC n (lenZ (clrT z e f))=tabC n (lenZ z):=by
 rw[show lenZ (clrT z e f)=lenZ z from funext fun e'=>lenZ_clr z e f e']
theorem al1 (x y:Asg):PureFn Tryz.prog 107 [x.pv,y.pv] (.bool (asS x y)):=by
 refine PureFn.intro mixed (fn:=Tryz.f107) rfl rfl rfl fun M w0 => ?_
 (try conv=>whnf);repeat' (first|(apply And.intro<;>try conv=>whnf)|(intro h;try conv=>whnf)|apply True.intro|(apply WhenQ.mk;(try conv=>whnf);rotate_left;(try conv=>whnf);rotate_right)|with_reducible assumption|(refine PureFn.dcq (f:=33) rfl ?_;try conv=>whnf)|(refine⟨_,_,fm_Same ?_ ?_,?_,?_⟩;rotate_left 2;(focus first|(refine⟨?_,?_,trivial⟩<;>first|exact PLe.refl _|exact PLe.nil)|exact trivial);try conv=>whnf)|fail)
 all_goals exact .refl _
theorem cp_alike (a b:Act) (hA:Shp a a.pre.length) (hB:Shp b b.pre.length) (hr:a.rel.length=b.rel.length) (hpa:∀ l,l∈a.post→l.length≤1000) (h0:0<a.pre.length):PureFn Tryz.prog 55 [a.pv,b.pv] (tabPV (alkI a b (tab0 a b))):=by
 have hn:=hA.n8
 have hm:=hB.n8
 refine PureFn.introC [2,12] mixed (fn:=Tryz.f55) rfl rfl rfl fun M w0 => ?_
 have hN:((a.pre.map fpv).length:Int).toNat=a.pre.length:=by simp
 try conv=>whnf
 refine⟨Unit,fun _=>[(2,.ref 0 0),(3,.ref 1 0),(5,.vbuf 2 a.pre.length)],fun _=>16,fun _=>AT a b a.pre.length (nilT a.pre.length),?_,?_⟩
 ·(try conv=>whnf);repeat' (first|(apply And.intro<;>try conv=>whnf)|(apply Or.inr;refine⟨rfl,?_,rfl,?_⟩;try conv=>whnf)|fail)
  all_goals first
   |rfl
   |exact (show (0:Int)≤((a.pre.map fpv).length:Int) from Int.natCast_nonneg _)
   |exact (show ((a.pre.map fpv).length:Int)≤(big:Nat) by rw[List.length_map];unfold big;omega)
   |exact (show (0:Int)<((a.pre.map fpv).length:Int) by rw[List.length_map];omega)
   |skip
  rw[hN]
  refine⟨(),Wk.ofP ⟨.same _,.same _,.same _,trivial⟩ rfl rfl rfl (AT_start hn rfl rfl rfl (fun k hk => ?_) (show 3≤8 by decide))⟩
  show (bif Nat.beq k 2 then _ else bif Nat.beq k 1 then _ else bif Nat.beq k 0 then _ else none)=none
  rw[beq_no (by omega),beq_no (by omega),beq_no (by omega)];rfl
 rintro⟨⟩
 refine⟨Unit,fun _=>[(2,.ref 0 0),(3,.ref 1 0),(5,.vbuf 2 a.pre.length)],fun _=>16,fun _=>AT a b a.pre.length (tab0 a b),?_,?_⟩
 ·try conv=>whnf
  refine⟨{ e:Nat // e≤a.pre.length },fun e=>[(2,.ref 0 0),(3,.ref 1 0),(5,.vbuf 2 a.pre.length),(18,.pv (i64 (a.pre.map fpv).length)),(19,.pv (i64 e.1))],fun _=>16,fun e=>AT a b a.pre.length (bldT a b e.1 0),fun e=>a.pre.length-e.1,⟨⟨0,Nat.zero_le _⟩,?_⟩,?_⟩
  ·show Wk _ _ _ _ (AT a b a.pre.length (bldT a b 0 0))
   rw[bld_nil]
   (refine Wk.ofN 0 ?_ ?_ rfl rfl rfl ?_<;>repeat' (first|exact trivial|exact WkD.same _|refine⟨?_,?_⟩|fail))
   exact AT_mid hn (Nat.le_refl 16) fun k hk=>rfl
  rintro⟨e,he⟩
  (try conv=>whnf);repeat' (first|(apply And.intro<;>try conv=>whnf)|(intro h;try conv=>whnf)|fail)
  ·have he':e<a.pre.length:=by simpa using lt_dec h
   refine⟨{ f:Nat // f≤b.pre.length },fun f=>[(2,.ref 0 0),(3,.ref 1 0),(5,.vbuf 2 a.pre.length),(18,.pv (i64 (a.pre.map fpv).length)),(19,.pv (i64 e)),(6,.pv (i64 e)),(24,.pv (i64 (b.pre.map fpv).length)),(25,.pv (i64 f.1))],fun _=>16,fun f=>AT a b a.pre.length (bldT a b e f.1),fun f=>b.pre.length-f.1,⟨⟨0,Nat.zero_le _⟩,?_⟩,?_⟩
   ·(refine Wk.ofN 0 ?_ ?_ rfl rfl rfl ?_<;>repeat' (first|exact trivial|exact WkD.same _|refine⟨?_,?_⟩|fail))
    exact AT_mid hn (Nat.le_refl 16) fun k hk=>rfl
   rintro⟨f,hf⟩
   (try conv=>whnf);repeat' (first|(apply And.intro<;>try conv=>whnf)|(intro h;try conv=>whnf)|fail)
   ·have hf':f<b.pre.length:=by simpa using lt_dec h
    obtain⟨pa,hpa'⟩:∃ y,a.pre[e]? = some y:=⟨_,List.getElem?_eq_getElem he'⟩
    obtain⟨pb,hpb'⟩:∃ y,b.pre[f]? = some y:=⟨_,List.getElem?_eq_getElem hf'⟩
    obtain⟨qa,hqa⟩:∃ y,a.post[e]? = some y:=⟨_,List.getElem?_eq_getElem (by rw[hA.post];exact he')⟩
    obtain⟨qb,hqb⟩:∃ y,b.post[f]? = some y:=⟨_,List.getElem?_eq_getElem (by rw[hB.post];exact hf')⟩
    have i1:=idx_map (g:=fpv) hpa'
    have i2:=idx_map (g:=fpv) hpb'
    have i3:=idx_map (g:=postPV) hqa
    have i4:=idx_map (g:=postPV) hqb
    have hql:=hpa qa (List.mem_iff_getElem?.2 ⟨_,hqa⟩)
    refine⟨Plan.lin 0 12,[10],by kernel_rfl,?_⟩
    (try conv=>whnf);repeat' (first|(apply And.intro<;>try conv=>whnf)|(apply infoT;rfl)|(refine⟨_,_,rfl,idx_map (by with_reducible assumption),rfl,?_⟩;try conv=>whnf)|fail)
    refine DC.alone (p:=.bool (eqL asS qa qb)) rfl (fun M w0=>eqf_A 107 asS rfl qa qb hql (fun s _ t _=>al1 s t) M w0) ?_
    have hS:=fm_Same pa pb
    try conv=>whnf
    refine⟨Plan.lin 0 24,[21,23],by kernel_rfl,?_⟩
    (try conv=>whnf);repeat' (first|(apply And.intro<;>try conv=>whnf)|(apply infoT;rfl)|fail)
    ·exact rfl
    refine⟨e,rfl,he',?_⟩
    try conv=>whnf
    rw[tabC_get he']
    (try conv=>whnf);repeat' (first|(apply And.intro<;>try conv=>whnf)|(intro h;try conv=>whnf)|apply True.intro|(apply infoT;rfl)|(apply cellsI;rfl)|(apply szI;rfl)|(apply WhenQ.mk;(try conv=>whnf);rotate_left;(try conv=>whnf);rotate_right)|with_reducible assumption|(refine⟨_,_,rfl,idx_map (by with_reducible assumption),rfl,?_⟩;try conv=>whnf)|(refine⟨_,(by (conv=>whnf);exact hS),rfl,?_⟩;try conv=>whnf)|fail)
    have hcl:(colZ (bldT a b e f) e).length≤8:=by
     rw[colZ,List.length_map,bld_at he',if_neg (Nat.lt_irrefl e),if_pos rfl,List.length_take];omega
    have hel:e+1≤(tabC a.pre.length (lenZ (bldT a b e f))).length:=by rw[tabC_len];exact he'
    rw[get_eq (k:=e+8) (o:=some (.arr 1 (colZ (bldT a b e f) e))) (AT_get (a:=a) (b:=b) he')]
    (try conv=>whnf);repeat' (first|(apply And.intro<;>try conv=>whnf)|(apply infoT;rfl)|(apply cellsI;rfl)|fail)
    all_goals first
     |exact (show (colZ (bldT a b e f) e).length+1≤4294967296 by omega)
     |exact rfl
     |skip
    refine⟨e,rfl,he',?_⟩
    try conv=>whnf
    rw[ble_s (e:=e) (b:=(tabC a.pre.length (lenZ (bldT a b e f))).length) ?_ hel]
    try conv=>whnf
    ·have hz:z0B a b e f=bif eqL asS qa qb then same pa pb else false:=by
      rw[z0B,List.getD_eq_getElem?_getD,List.getD_eq_getElem?_getD,List.getD_eq_getElem?_getD,List.getD_eq_getElem?_getD,hpa',hpb',hqa,hqb];rfl
     have hbc:=bld_cell (f:=f) he' hf'
     rw[hz] at hbc
     refine⟨⟨f+1,hf'⟩,by show b.pre.length-(f+1)<b.pre.length-f;omega,?_⟩
     (refine Wk.ofN 0 ?_ ?_ rfl rfl rfl ?_<;>repeat' (first|exact trivial|exact WkD.same _|refine WkD.int ?_|refine⟨?_,?_⟩|(refine wrapA ?_ ?_ ?_;(focus simp;done);(focus (try dsimp only);omega);(focus (try dsimp only);omega))|fail))
     refine AT_all (g:=_) hn (Nat.le_refl 16) rfl rfl ?_ fun e' hg' => ?_
     ·exact congrArg (fun z=>some (DObj.var z)) (tabC_put he' (by rw[lenZ,hbc]) (fun e' h=>by rw[lenZ,lenZ,bld_else h]))
     ·show (bif Nat.beq (e'+8) (e+8) then some (DObj.arr 1 (colZ (bldT a b e f) e++[.bool (bif eqL asS qa qb then same pa pb else false)])) else objsOf (AT a b a.pre.length (bldT a b e f)) (e'+8))=_
      by_cases q:e'=e
      ·rw[q,Nat.beq_refl,cond_true,hbc]
      ·rw[beq_no (by omega),cond_false,AT_get hg',bld_else q]
    ·exact rfl
   ·have hf':f=b.pre.length:=by have:=ge_dec (m:=(b.pre.map fpv).length) h (by simpa using hf);simpa using this
    subst hf'
    refine⟨⟨e+1,he'⟩,by show a.pre.length-(e+1)<a.pre.length-e;omega,?_⟩
    have hb:=bld_next a b e
    (refine Wk.ofN 0 ?_ ?_ rfl rfl rfl ?_<;>repeat' (first|exact trivial|exact WkD.same _|refine WkD.int ?_|refine⟨?_,?_⟩|(refine wrapA ?_ ?_ ?_;(focus simp;done);(focus (try dsimp only);omega);(focus (try dsimp only);omega))|fail))
    exact AT_mid hn (Nat.le_refl 16) fun k hk=>congrFun (congrArg (fun z=>objsOf (AT a b a.pre.length z)) hb) k
  ·have he':e=a.pre.length:=by have:=ge_dec (m:=(a.pre.map fpv).length) h (by simpa using he);simpa using this
   subst he'
   refine⟨(),?_⟩
   (refine Wk.ofN 0 ?_ ?_ rfl rfl rfl ?_<;>repeat' (first|exact trivial|exact WkD.same _|refine⟨?_,?_⟩|fail))
   exact AT_mid hn (Nat.le_refl 16) fun k hk=>congrFun (congrArg (fun z=>objsOf (AT a b a.pre.length z)) (bld_all a b)) k
 rintro⟨⟩
 have hT0:Tab (tab0 a b) a.pre.length b.pre.length:=⟨by simp[tab0],fun r hr=>by
  obtain⟨e,_,rfl⟩:=List.mem_map.1 hr
  exact row0_len a b e⟩
 obtain⟨R,hR⟩:∃ R,alkI a b (tab0 a b)=R:=⟨_,rfl⟩
 rw[hR]
 try conv=>whnf
 refine⟨{ x:List (List Bool)×Bool // Tab x.1 a.pre.length b.pre.length∧(x.2=true→alkI a b x.1=R)∧(x.2=false→x.1=R) },fun x=>[(2,.ref 0 0),(3,.ref 1 0),(5,.vbuf 2 a.pre.length),(9,.pv (.bool x.1.2))],fun _=>16,fun x=>AT a b a.pre.length x.1.1,fun x=>2*cntZ x.1.1 a.pre.length b.pre.length+(bif x.1.2 then 1 else 0),⟨⟨(tab0 a b,true),hT0,fun _=>hR,fun h=>(by cases h)⟩,?_⟩,?_⟩
 ·(refine Wk.ofN 0 ?_ ?_ rfl rfl rfl ?_<;>repeat' (first|exact trivial|exact WkD.same _|refine⟨?_,?_⟩|fail))
  exact AT_mid hn (Nat.le_refl 16) fun k hk=>rfl
 rintro⟨⟨z,ch⟩,hz,hy,hno⟩
 simp only at hz hy hno
 (try conv=>whnf);repeat' (first|(apply And.intro<;>try conv=>whnf)|(intro h;try conv=>whnf)|fail)
 ·have hyR:=hy h
  have hO:=fun (k:Nat) (hk:k≤a.pre.length)=>(OkS.start hz).pass (a:=a) (b:=b) (k:=k) hk
  refine⟨{ e:Nat // e≤a.pre.length },fun e=>[(2,.ref 0 0),(3,.ref 1 0),(5,.vbuf 2 a.pre.length),(9,.pv (.bool (passZ a b b.pre.length e.1 (z,false)).2)),(66,.pv (i64 a.pre.length)),(67,.pv (i64 e.1))],fun _=>16,fun e=>AT a b a.pre.length (passZ a b b.pre.length e.1 (z,false)).1,fun e=>a.pre.length-e.1,⟨⟨0,Nat.zero_le _⟩,?_⟩,?_⟩
  ·(refine Wk.ofN 0 ?_ ?_ rfl rfl rfl ?_<;>repeat' (first|exact trivial|exact WkD.same _|refine⟨?_,?_⟩|fail))
   exact AT_mid hn (Nat.le_refl 16) fun k hk=>rfl
  rintro⟨e,he⟩
  (try conv=>whnf);repeat' (first|(apply And.intro<;>try conv=>whnf)|(intro h;try conv=>whnf)|(apply infoT;rfl)|fail)
  ·exact rfl
  ·have he':e<a.pre.length:=by
    have h2:decide ((e:Int)<((a.pre.length:Nat):Int))=true:=by assumption
    have:=of_decide_eq_true h2
    omega
   refine⟨e,rfl,he',?_⟩
   try conv=>whnf
   rw[tabC_get he']
   try conv=>whnf
   have hOe:=hO e (by omega)
   have hre:∀ z:List (List Bool),Tab z a.pre.length b.pre.length→lenZ z e=b.pre.length:=fun z hz=>by
    rw[lenZ,colZ,List.length_map]
    exact hz.row _ (List.mem_iff_getElem?.2 ⟨e,getD_mem (by rw[hz.len];exact he')⟩)
   refine⟨{ f:Nat // f≤b.pre.length },fun f=>[(2,.ref 0 0),(3,.ref 1 0),(5,.vbuf 2 a.pre.length),(9,.pv (.bool (rowZ a b e f.1 (passZ a b b.pre.length e (z,false))).2)),(66,.pv (i64 a.pre.length)),(67,.pv (i64 e)),(10,.pv (i64 e)),(74,.pv (i64 (lenZ (passZ a b b.pre.length e (z,false)).1 e))),(75,.pv (i64 f.1))],fun _=>16,fun f=>AT a b a.pre.length (rowZ a b e f.1 (passZ a b b.pre.length e (z,false))).1,fun f=>b.pre.length-f.1,⟨⟨0,Nat.zero_le _⟩,?_⟩,?_⟩
   ·(refine Wk.ofN 0 ?_ ?_ rfl rfl rfl ?_<;>repeat' (first|exact trivial|exact WkD.same _|refine⟨?_,?_⟩|fail))
    exact AT_mid hn (Nat.le_refl 16) fun k hk=>rfl
   rintro⟨f,hf⟩
   have hle:=hre _ hOe.tab
   (try conv=>whnf);repeat' (first|(apply And.intro<;>try conv=>whnf)|(intro h;try conv=>whnf)|(apply infoT;rfl)|fail)
   ·exact rfl
   ·have hf':f<b.pre.length:=by
     have h2:decide ((f:Int)<((lenZ (passZ a b b.pre.length e (z,false)).1 e:Nat):Int))=true:=by assumption
     have:=of_decide_eq_true h2
     omega
    have hOr:=hOe.row (a:=a) (b:=b) he' (k:=f) (by omega)
    have hls:=hre _ hOr.tab
    obtain⟨t1,t2⟩:=hOr.tab.at he' hf'
    have t3:(colZ (rowZ a b e f (passZ a b b.pre.length e (z,false))).1 e)[f]? = some (.bool (zAt (rowZ a b e f (passZ a b b.pre.length e (z,false))).1 e f)):=by rw[colZ,List.getElem?_map,t2];rfl
    refine⟨e,rfl,he',?_⟩
    try conv=>whnf
    rw[tabC_get he']
    try conv=>whnf
    rw[get_eq (k:=e+8) (o:=some (.arr 1 (colZ (rowZ a b e f (passZ a b b.pre.length e (z,false))).1 e))) (AT_get (a:=a) (b:=b) he')]
    (try conv=>whnf);repeat' (first|(apply And.intro<;>try conv=>whnf)|fail)
    ·exact rfl
    refine⟨f,rfl,by rw[hls];exact hf',?_⟩
    try conv=>whnf
    rw[get_eq (k:=e+8) (o:=some (.arr 1 (colZ (rowZ a b e f (passZ a b b.pre.length e (z,false))).1 e))) (AT_get (a:=a) (b:=b) he')]
    refine⟨rfl,_,t3,?_⟩
    have hMt:=cp_matched a b a.pre.length b.pre.length hA hB hr (rowZ a b e f (passZ a b b.pre.length e (z,false))).1 hOr.tab e f he' hf'
    have htp:=tabPV_rows hOr.tab.len
    have hg8:∀ e',e'<a.pre.length→objsOf (AT a b a.pre.length (rowZ a b e f (passZ a b b.pre.length e (z,false))).1) (e'+8)=some (.arr 1 (colZ (rowZ a b e f (passZ a b b.pre.length e (z,false))).1 e')):=fun e' h=>AT_get h
    generalize hv:zAt (rowZ a b e f (passZ a b b.pre.length e (z,false))).1 e f=v at t3 ⊢
    (try conv=>whnf);repeat' (first|(apply And.intro<;>try conv=>whnf)|(intro h;try conv=>whnf)|apply True.intro|(apply infoT;rfl)|(apply WhenQ.mk;(try conv=>whnf);rotate_left;(try conv=>whnf);rotate_right)|with_reducible assumption|(exact PureFn.dcb hMt rfl (mt_brws (a:=a) (b:=b) (Z:=(rowZ a b e f (passZ a b b.pre.length e (z,false))).1) rfl hg8 htp e f) ⟨rfl,rfl⟩;try conv=>whnf)|fail)
    ·exact rfl
    ·have hst:stepZ a b e f (rowZ a b e f (passZ a b b.pre.length e (z,false)))=(clrT (rowZ a b e f (passZ a b b.pre.length e (z,false))).1 e f,true):=by
      rw[stepZ,hv,show (bif v then !mtI a b (rowZ a b e f (passZ a b b.pre.length e (z,false))).1 e f else false)=true from h];rfl
     refine⟨e,rfl,he',?_⟩
     try conv=>whnf
     rw[tabC_get he']
     try conv=>whnf
     rw[get_eq (k:=e+8) (o:=some (.arr 1 (colZ (rowZ a b e f (passZ a b b.pre.length e (z,false))).1 e))) (AT_get (a:=a) (b:=b) he')]
     (try conv=>whnf);repeat' (first|(apply And.intro<;>try conv=>whnf)|fail)
     all_goals first
      |exact rfl
      |skip
     refine⟨f,rfl,by rw[hls];exact hf',?_⟩
     try conv=>whnf
     rw[get_eq (k:=e+8) (o:=some (.arr 1 (colZ (rowZ a b e f (passZ a b b.pre.length e (z,false))).1 e))) (AT_get (a:=a) (b:=b) he')]
     refine⟨rfl,_,t3,?_⟩
     (try conv=>whnf);repeat' (first|(apply And.intro<;>try conv=>whnf)|exact Nat.le_refl 1|fail)
     refine⟨⟨f+1,hf'⟩,by show b.pre.length-(f+1)<b.pre.length-f;omega,?_⟩
     have hrs:rowZ a b e (f+1) (passZ a b b.pre.length e (z,false))=(clrT (rowZ a b e f (passZ a b b.pre.length e (z,false))).1 e f,true):=by rw[rowZ,hst]
     show Wk _ _ [(2,.ref 0 0),(3,.ref 1 0),(5,.vbuf 2 a.pre.length),(9,.pv (.bool (rowZ a b e (f+1) (passZ a b b.pre.length e (z,false))).2)),(66,.pv (i64 a.pre.length)),(67,.pv (i64 e)),(10,.pv (i64 e)),(74,.pv (i64 (lenZ (passZ a b b.pre.length e (z,false)).1 e))),(75,.pv (i64 (f+1)))] 16 (AT a b a.pre.length (rowZ a b e (f+1) (passZ a b b.pre.length e (z,false))).1)
     rw[hrs]
     have hcl:=colZ_clr (f:=f) (show e<(rowZ a b e f (passZ a b b.pre.length e (z,false))).1.length by rw[hOr.tab.len];exact he')
     (refine Wk.ofN 0 ?_ ?_ rfl rfl rfl ?_<;>repeat' (first|exact trivial|exact WkD.same _|refine WkD.int ?_|refine⟨?_,?_⟩|(refine wrapA ?_ ?_ ?_;(focus simp;done);(focus (try dsimp only);omega);(focus (try dsimp only);omega))|fail))
     refine AT_all (g:=_) hn (Nat.le_refl 16) rfl rfl ?_ fun e' hg' => ?_
     ·exact congrArg (fun z=>some (DObj.var z)) (tabC_clr _ a.pre.length e f).symm
     ·show (bif Nat.beq (e'+8) (e+8) then some (DObj.arr 1 ((colZ (rowZ a b e f (passZ a b b.pre.length e (z,false))).1 e).set f (.bool false))) else objsOf (AT a b a.pre.length (rowZ a b e f (passZ a b b.pre.length e (z,false))).1) (e'+8))=_
      by_cases q:e'=e
      ·rw[q,Nat.beq_refl,cond_true,hcl]
      ·rw[beq_no (by omega),cond_false,AT_get hg',colZ_cle q]
    ·have hst:stepZ a b e f (rowZ a b e f (passZ a b b.pre.length e (z,false)))=rowZ a b e f (passZ a b b.pre.length e (z,false)):=by
      rw[stepZ,hv,show (bif v then !mtI a b (rowZ a b e f (passZ a b b.pre.length e (z,false))).1 e f else false)=false from h];rfl
     refine⟨⟨f+1,hf'⟩,by show b.pre.length-(f+1)<b.pre.length-f;omega,?_⟩
     have hrs:rowZ a b e (f+1) (passZ a b b.pre.length e (z,false))=rowZ a b e f (passZ a b b.pre.length e (z,false)):=by rw[rowZ,hst]
     show Wk _ _ [(2,.ref 0 0),(3,.ref 1 0),(5,.vbuf 2 a.pre.length),(9,.pv (.bool (rowZ a b e (f+1) (passZ a b b.pre.length e (z,false))).2)),(66,.pv (i64 a.pre.length)),(67,.pv (i64 e)),(10,.pv (i64 e)),(74,.pv (i64 (lenZ (passZ a b b.pre.length e (z,false)).1 e))),(75,.pv (i64 (f+1)))] 16 (AT a b a.pre.length (rowZ a b e (f+1) (passZ a b b.pre.length e (z,false))).1)
     rw[hrs]
     (refine Wk.ofN 0 ?_ ?_ rfl rfl rfl ?_<;>repeat' (first|exact trivial|exact WkD.same _|refine WkD.int ?_|refine⟨?_,?_⟩|(refine wrapA ?_ ?_ ?_;(focus simp;done);(focus (try dsimp only);omega);(focus (try dsimp only);omega))|fail))
     exact AT_mid hn (Nat.le_refl 16) fun k hk=>rfl
   ·have hf':f=b.pre.length:=by
     have h2:decide ((f:Int)<((lenZ (passZ a b b.pre.length e (z,false)).1 e:Nat):Int))=false:=by assumption
     have:=of_decide_eq_false h2
     omega
    subst hf'
    refine⟨⟨e+1,he'⟩,by show a.pre.length-(e+1)<a.pre.length-e;omega,?_⟩
    (refine Wk.ofN 0 ?_ ?_ rfl rfl rfl ?_<;>repeat' (first|exact trivial|exact WkD.same _|refine WkD.int ?_|refine⟨?_,?_⟩|(refine wrapA ?_ ?_ ?_;(focus simp;done);(focus (try dsimp only);omega);(focus (try dsimp only);omega))|fail))
    exact AT_mid hn (Nat.le_refl 16) fun k hk=>rfl
  ·rename_i hch
   have hch:ch=true:=hch
   have he':e=a.pre.length:=by
    have h2:decide ((e:Int)<((a.pre.length:Nat):Int))=false:=h
    have:=of_decide_eq_false h2
    omega
   subst he'
   have hOn:=hO a.pre.length (Nat.le_refl _)
   have hst:=alk_step (a:=a) (b:=b) hz
   rw[hyR] at hst
   generalize hP:passZ a b b.pre.length a.pre.length (z,false)=P at hOn hst
   refine⟨⟨P,hOn.tab,fun h=>by rw[hst,h];rfl,fun h=>by rw[hst,h,hOn.no h];rfl⟩,?_,?_⟩
   ·show 2*cntZ P.1 a.pre.length b.pre.length+(bif P.2 then 1 else 0)<2*cntZ z a.pre.length b.pre.length+(bif ch then 1 else 0)
    rw[hch]
    cases h2:P.2 with
    |true=>have:=hOn.yes h2;simp only[cond_true];omega
    |false=>rw[hOn.no h2];simp only[cond_true,cond_false];omega
   ·subst hP
    (refine Wk.ofN 0 ?_ ?_ rfl rfl rfl ?_<;>repeat' (first|exact trivial|exact WkD.same _|refine⟨?_,?_⟩|fail))
    exact AT_mid hn (Nat.le_refl 16) fun k hk=>rfl
 ·have hzR:=hno h
  have htab:tabPV R=.sl ((List.range a.pre.length).map fun e=>.sl (colZ z e)):=by
   rw[← hzR];exact tabPV_rows hz.len
  rw[htab]
  refine frz1s_rows (colZ z) (List.range a.pre.length) _ _ (fun e he=>.inl (AT_get (a:=a) (b:=b) (List.mem_range.1 he))) (Nat.zero_le 8) fun L' => ?_
  refine⟨by simp,by simp[PV.one],rfl,.refl _⟩
theorem smp_shp {a:Act} (h:aloneI a=0):Shp (smpA a) (smpA a).pre.length:=by
 have hO:=actI_ok h
 have e:(smpA a).pre.length=a.pre.length:=by simp[smpA]
 refine⟨rfl,by rw[e];simp[smpA,hO.post],by rw[e];exact hO.n8,by have:=hO.agn;show a.rel.length≤1000;omega,fun r hr => ?_,fun r hr => ?_⟩
 ·rw[e];exact hO.rows r hr
 ·rw[e];exact hO.bits r hr
theorem smpL_len (l:List Asg):(smpL l).length≤l.length:=by
 unfold smpL
 exact Nat.le_trans (List.length_filter_le _ _) (by simp)
theorem smp_post {a:Act} (hS:SmX a):∀ l,l∈(smpA a).post→l.length≤1000:=fun l hl=>by
 obtain⟨q,hq,rfl⟩:=List.mem_map.1 hl
 exact Nat.le_trans (smpL_len q) (hS.post q hq)
def alkG (a:Act) (e:Int) (b:Act) (f:Int):Int :=
 bif aloneI a != 0 then aloneI a else bif aloneI b != 0 then aloneI b else bif ((a.rel.length:Int) != (b.rel.length:Int)) then 1 else
 bif (bif (bif (bif decide (e<0) then true else decide (e≥(a.pre.length:Int))) then true else decide (f<0)) then true else decide (f≥(b.pre.length:Int))) then 6 else 0
def alkT (a b:Act):List (List Bool):=alkI (smpA a) (smpA b) (tab0 (smpA a) (smpA b))
def alikeI (a:Act) (e:Int) (b:Act) (f:Int):Bool:=bif alkG a e b f != 0 then false else zAt (alkT a b) e.toNat f.toNat
def alikeP (a:Act) (e:Int) (b:Act) (f:Int):PV:=.tup [.bool (alikeI a e b f),.int .i64 (alkG a e b f)]
theorem alikeP_no {a b:Act} {e f c:Int} (h:alkG a e b f=c) (hc:(c != 0)=true):alikeP a e b f=.tup [.bool false,.int .i64 c]:=by
 unfold alikeP alikeI
 rw[h,hc];rfl
theorem or_ff4 {a b c d:Bool} (h:(bif (bif (bif a then true else b) then true else c) then true else d)=false):a=false∧b=false∧c=false∧d=false:=by
 cases a<;>cases b<;>cases c<;>cases d<;>simp_all
theorem cp_Alike (a b:Act) (hSa:SmX a) (hSb:SmX b) (e f:Int):PureFn Tryz.prog 21 [a.pv,.int .i64 e,b.pv,.int .i64 f] (alikeP a e b f):=by
 have hCa:=cp_check a hSa
 have hCb:=cp_check b hSb
 have e1:((a.pre.map fpv).length:Int)=(a.pre.length:Int):=by simp
 have e2:((b.pre.map fpv).length:Int)=(b.pre.length:Int):=by simp
 have e3:((a.rel.map rowPV).length:Int)=(a.rel.length:Int):=by simp
 have e4:((b.rel.map rowPV).length:Int)=(b.rel.length:Int):=by simp
 refine PureFn.introC [4,7,9,11] mixed (fn:=Tryz.f21) rfl rfl rfl fun M w0 => ?_
 try conv=>whnf
 refine⟨{ _x:Unit // aloneI a=0 },fun _=>[(1,.pv (.int .i64 e)),(3,.pv (.int .i64 f)),(4,.ref 0 0),(6,.ref 1 0)],fun _=>2,fun _=>[(0,.var (cellsA a)),(1,.var (cellsA b))],?_,?_⟩
 ·(try conv=>whnf);repeat' (first|(apply And.intro<;>try conv=>whnf)|(intro h;try conv=>whnf)|(refine PureFn.dcq (f:=51) rfl ?_;try conv=>whnf)|(refine⟨_,_,hCa,?_,?_⟩;(focus first|(refine⟨?_,trivial⟩<;>first|exact PLe.refl _|exact PLe.nil)|exact trivial);try conv=>whnf)|fail)
  ·have hg:alkG a e b f=aloneI a:=by rw[alkG,show (aloneI a != 0)=true from h];rfl
   rw[alikeP_no hg h]
   exact .refl _
  ·exact⟨⟨(),by simpa using h⟩,(by refine Wk.of ?_ ?_ rfl rfl rfl<;>repeat' (first|exact trivial|exact WkD.same _|exact WkO.same _ _ rfl|refine⟨?_,?_⟩|fail))⟩
 rintro⟨_,ha0⟩
 have g1:(aloneI a != 0)=false:=by simpa using ha0
 refine⟨{ _x:Unit // aloneI b=0 },fun _=>[(1,.pv (.int .i64 e)),(3,.pv (.int .i64 f)),(4,.ref 0 0),(6,.ref 1 0)],fun _=>2,fun _=>[(0,.var (cellsA a)),(1,.var (cellsA b))],?_,?_⟩
 ·(try conv=>whnf);repeat' (first|(apply And.intro<;>try conv=>whnf)|(intro h;try conv=>whnf)|(refine PureFn.dcq (f:=51) rfl ?_;try conv=>whnf)|(refine⟨_,_,hCb,?_,?_⟩;(focus first|(refine⟨?_,trivial⟩<;>first|exact PLe.refl _|exact PLe.nil)|exact trivial);try conv=>whnf)|fail)
  ·have hg:alkG a e b f=aloneI b:=by rw[alkG,g1,cond_false,show (aloneI b != 0)=true from h];rfl
   rw[alikeP_no hg h]
   exact .refl _
  ·exact⟨⟨(),by simpa using h⟩,(by refine Wk.of ?_ ?_ rfl rfl rfl<;>repeat' (first|exact trivial|exact WkD.same _|exact WkO.same _ _ rfl|refine⟨?_,?_⟩|fail))⟩
 rintro⟨_,hb0⟩
 have g2:(aloneI b != 0)=false:=by simpa using hb0
 refine⟨{ _x:Unit // a.rel.length=b.rel.length },fun _=>[(1,.pv (.int .i64 e)),(3,.pv (.int .i64 f)),(4,.ref 0 0),(6,.ref 1 0)],fun _=>2,fun _=>[(0,.var (cellsA a)),(1,.var (cellsA b))],?_,?_⟩
 ·(try conv=>whnf);repeat' (first|(apply And.intro<;>try conv=>whnf)|(intro h;try conv=>whnf)|fail)
  ·have hg:alkG a e b f=1:=by rw[alkG,g1,cond_false,g2,cond_false,← e3,← e4,show (((a.rel.map rowPV).length:Int) != ((b.rel.map rowPV).length:Int))=true from h];rfl
   rw[alikeP_no hg rfl]
   exact .refl _
  ·refine⟨⟨(),?_⟩,(by refine Wk.of ?_ ?_ rfl rfl rfl<;>repeat' (first|exact trivial|exact WkD.same _|exact WkO.same _ _ rfl|refine⟨?_,?_⟩|fail))⟩
   have h2:(((a.rel.map rowPV).length:Int) != ((b.rel.map rowPV).length:Int))=false:=h
   rw[e3,e4] at h2
   have:(a.rel.length:Int)=b.rel.length:=by simpa using h2
   omega
 rintro⟨_,hr⟩
 have g3:((a.rel.length:Int) != (b.rel.length:Int))=false:=by rw[hr];simp
 refine⟨{ _x:Unit // alkG a e b f=0∧0≤e∧e<(a.pre.length:Int)∧0≤f∧f<(b.pre.length:Int) },fun _=>[(1,.pv (.int .i64 e)),(3,.pv (.int .i64 f)),(4,.ref 0 0),(6,.ref 1 0)],fun _=>2,fun _=>[(0,.var (cellsA a)),(1,.var (cellsA b))],?_,?_⟩
 ·have hgg:alkG a e b f=bif (bif (bif (bif decide (e<0) then true else decide (e≥((a.pre.map fpv).length:Int))) then true else decide (f<0)) then true else decide (f≥((b.pre.map fpv).length:Int))) then 6 else 0:=by
   rw[alkG,g1,cond_false,g2,cond_false,g3,cond_false,e1,e2]
  (try conv=>whnf);repeat' (first|(apply And.intro<;>try conv=>whnf)|(intro h;try conv=>whnf)|apply True.intro|(apply WhenQ.mk;(try conv=>whnf);rotate_left;(try conv=>whnf);rotate_right)|with_reducible assumption|(apply not_of;with_reducible assumption)|fail)
  ·rw[show (bif (bif (bif decide (e<0) then true else decide (e≥((a.pre.map fpv).length:Int))) then true else decide (f<0)) then true else decide (f≥((b.pre.map fpv).length:Int)))=true from h] at hgg
   rw[alikeP_no hgg rfl]
   exact .refl _
  ·rw[show (bif (bif (bif decide (e<0) then true else decide (e≥((a.pre.map fpv).length:Int))) then true else decide (f<0)) then true else decide (f≥((b.pre.map fpv).length:Int)))=false from h] at hgg
   obtain⟨q1,q2,q3,q4⟩:=or_ff4 (show (bif (bif (bif decide (e<0) then true else decide (e≥((a.pre.map fpv).length:Int))) then true else decide (f<0)) then true else decide (f≥((b.pre.map fpv).length:Int)))=false from h)
   have:=of_decide_eq_false q1
   have:=of_decide_eq_false q2
   have:=of_decide_eq_false q3
   have:=of_decide_eq_false q4
   exact⟨⟨(),hgg,by omega,by omega,by omega,by omega⟩,(by refine Wk.of ?_ ?_ rfl rfl rfl<;>repeat' (first|exact trivial|exact WkD.same _|exact WkO.same _ _ rfl|refine⟨?_,?_⟩|fail))⟩
 rintro⟨_,h0,he0,he1,hf0,hf1⟩
 obtain⟨en,rfl⟩:∃ en:Nat,e=en:=⟨e.toNat,by omega⟩
 obtain⟨fn,rfl⟩:∃ fn:Nat,f=fn:=⟨f.toNat,by omega⟩
 have hsa:(smpA a).pre.length=a.pre.length:=by simp[smpA]
 have hsb:(smpA b).pre.length=b.pre.length:=by simp[smpA]
 have hA:=smp_shp ha0
 have hB:=smp_shp hb0
 have n1:=(actI_ok ha0).n1
 have hSm1:=cp_simple a ha0
 have hSm2:=cp_simple b hb0
 have hAl:=cp_alike (smpA a) (smpA b) hA hB hr (smp_post hSa) (by rw[hsa];omega)
 have hT:Tab (alkI (smpA a) (smpA b) (tab0 (smpA a) (smpA b))) a.pre.length b.pre.length:=by
  rw[← hsa,← hsb]
  exact alk_tab _ _
 obtain⟨t1,t2⟩:=hT.at (by omega:en<a.pre.length) (by omega:fn<b.pre.length)
 have hP:alikeP a en b fn=.tup [.bool (zAt (alkI (smpA a) (smpA b) (tab0 (smpA a) (smpA b))) en fn),.int .i64 0]:=by
  unfold alikeP alikeI alkT
  rw[h0]
  simp only[Int.toNat_natCast]
  rfl
 rw[hP]
 have i1:=idx_map (g:=rowB) t1
 have i2:=idx_map (g:=PV.bool) t2
 generalize zAt (alkI (smpA a) (smpA b) (tab0 (smpA a) (smpA b))) en fn=v at *
 generalize (alkI (smpA a) (smpA b) (tab0 (smpA a) (smpA b)))=T at *
 generalize smpA a=sa at *
 generalize smpA b=sb at *
 (try conv=>whnf);repeat' (first|(apply And.intro<;>try conv=>whnf)|(apply infoT;rfl)|(refine lin_plan (by kernel_rfl) ?_;try conv=>whnf)|(refine⟨_,_,rfl,idx_map (by with_reducible assumption),rfl,?_⟩;try conv=>whnf)|(refine⟨_,(by (conv=>whnf);exact hSm1),rfl,?_⟩;try conv=>whnf)|(refine⟨_,(by (conv=>whnf);exact hSm2),rfl,?_⟩;try conv=>whnf)|(refine⟨_,(by (conv=>whnf);exact hAl),rfl,?_⟩;try conv=>whnf)|fail)
 exact .refl _
end Go.Proofs.YtejbieopeicgkaaGreatDoor
