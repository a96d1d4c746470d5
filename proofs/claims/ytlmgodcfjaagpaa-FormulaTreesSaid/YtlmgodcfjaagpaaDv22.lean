/- The layer Dv, part 22: what a law is given, as pure values; a law's row out of its contract. -/
import Derived.Test.YtlmgodcfjaagpaaDv21
import Derived.ProofKit
namespace Go.Dv
open Go.RowKit (Below Below.trod)
open Go.ChangeShapes

def NoT : Nat → Prop := fun _ => False
def mkE (P : Program) (e : TypeId) (cs : List PV) : PV := match kindT P e with
  | some true => .agg cs
  | _ => (match cs with | [p] => p | _ => .agg cs)
/-- The fields lie without gaps. -/
def gapless (P : Program) : List Field → Nat → Nat → Bool
  | [], off, n => Nat.beq off n
  | f :: r, off, n => Nat.beq f.offset off && gapless P r (off + P.cellsOf f.type) n
/-- Is the type made of bools, integers, strings, slices and structs alone? -/
def plainT (P : Program) : Nat → TypeId → Bool
  | 0, _ => false
  | n + 1, t => match P.underlying t with
    | some .bool => true
    | some (.int _) => true
    | some .string => true
    | some (.slice e) => plainT P n e && !Nat.beq (P.cellsOf e) 0
    | some (.struct fs) => gapless P fs.toList 0 (P.cellsOf t) && fs.toList.all fun f => plainT P n f.type
    | _ => false
def TyFs (F : TypeId → List PV → Prop) : List Field → List PV → Prop
  | [], ps => ps = []
  | f :: r, ps => ∃ a b, ps = a ++ b ∧ F f.type a ∧ TyFs F r b
/-- The cells of a value of a type. -/
def TyC (P : Program) : Nat → TypeId → List PV → Prop
  | 0, _, _ => False
  | n + 1, t, ps => match P.underlying t with
    | some .bool => ∃ b, ps = [.bool b]
    | some (.int k) => ∃ m, ps = [.int k m] ∧ (Lit.int k m).wf = true
    | some .string => ∃ s, ps = [.str s]
    | some (.slice e) => ps = [.nil] ∨ ∃ l, ps = [.sl l] ∧ ∀ p, p ∈ l → ∃ cs, TyC P n e cs ∧ p = mkE P e cs
    | some (.struct fs) => TyFs (TyC P n) fs.toList ps
    | _ => False

theorem mkE_cells {P : Program} {n : Nat} {e : TypeId} {cs : List PV} (h : TyC P n e cs) : (mkE P e cs).cells = cs := by
  cases n with
  | zero => exact h.elim
  | succ n =>
    simp only [TyC] at h
    unfold mkE kindT
    split at h
    · rename_i hu; obtain ⟨b, rfl⟩ := h; simp [hu, PV.cells]
    · rename_i k hu; obtain ⟨m, rfl, _⟩ := h; simp [hu, PV.cells]
    · rename_i hu; obtain ⟨s, rfl⟩ := h; simp [hu, PV.cells]
    · rename_i e' hu; rcases h with rfl | ⟨l, rfl, _⟩ <;> simp [hu, PV.cells]
    · rename_i fs hu; simp [hu, PV.cells]
    · exact h.elim

theorem relPs_nil (w : World) : RelPs NoT w [] [] := ⟨rfl, fun i p v h => by simp at h⟩
theorem relPs_one {w : World} {p : PV} {v : Value} (h : RelP NoT w p v) : RelPs NoT w [p] [v] := ⟨rfl, fun i q u hq hu => by
  cases i with
  | zero => simp at hq hu; subst hq; subst hu; exact h
  | succ i => simp at hq⟩
theorem relPs_append {w : World} {ps qs : List PV} {vs us : List Value} (h1 : RelPs NoT w ps vs) (h2 : RelPs NoT w qs us) : RelPs NoT w (ps ++ qs) (vs ++ us) := by
  refine ⟨by simp [h1.1, h2.1], fun i p v hp hv => ?_⟩
  rcases Nat.lt_or_ge i ps.length with hl | hl
  · rw [List.getElem?_append_left hl] at hp
    rw [List.getElem?_append_left (by rw [← h1.1]; exact hl)] at hv
    exact h1.2 i p v hp hv
  · rw [List.getElem?_append_right hl] at hp
    rw [List.getElem?_append_right (by rw [← h1.1]; exact hl), ← h1.1] at hv
    exact h2.2 _ p v hp hv

section
variable {H : Type} {enc : TypeId × Value → H} {P : Program} {w : World}

theorem fields_rel {F : TypeId → List PV → Prop} {cs : List Value} : ∀ (l : List Field) (off : Nat), (∀ f, f ∈ l → ∃ ps, F f.type ps ∧ RelPs NoT w ps ((cs.drop f.offset).take (P.cellsOf f.type))) → gapless P l off cs.length = true →
    ∃ ps, TyFs F l ps ∧ RelPs NoT w ps (cs.drop off)
  | [], off, _, hg => by
    simp only [gapless] at hg
    have : off = cs.length := Nat.eq_of_beq_eq_true hg
    exact ⟨[], rfl, by rw [this, List.drop_length]; exact relPs_nil w⟩
  | f :: r, off, hf, hg => by
    simp only [gapless, Bool.and_eq_true] at hg
    have ho : f.offset = off := Nat.eq_of_beq_eq_true hg.1
    obtain ⟨a, ha1, ha2⟩ := hf f (by simp)
    obtain ⟨b, hb1, hb2⟩ := fields_rel r (off + P.cellsOf f.type) (fun g hg' => hf g (by simp [hg'])) hg.2
    refine ⟨a ++ b, ⟨a, b, rfl, ha1, hb1⟩, ?_⟩
    have e : cs.drop off = (cs.drop off).take (P.cellsOf f.type) ++ cs.drop (off + P.cellsOf f.type) := by
      rw [← List.drop_drop, List.take_append_drop]
    rw [e]
    rw [ho] at ha2
    exact relPs_append ha2 hb2

theorem trod_rel : ∀ (n : Nat) (t : TypeId) (fuel : Nat) (cs : List Value) (x : DataW H × List MemPlace), plainT P n t = true → DataW.trod enc P w 0 (fun _ => true) true fuel t cs = some x → ∃ ps, TyC P n t ps ∧ RelPs NoT w ps cs
  | 0, t, fuel, cs, x, hp, _ => by simp [plainT] at hp
  | n + 1, t, fuel, cs, x, hp, h => by
    simp only [plainT] at hp
    simp only [TyC]
    split at hp
    · rename_i hu
      obtain ⟨b, rfl, _⟩ := DataW.trod_bool hu h
      exact ⟨[.bool b], ⟨b, rfl⟩, relPs_one (.bool b)⟩
    · rename_i k hu
      obtain ⟨m, rfl, _, hm⟩ := DataW.trod_int hu h
      exact ⟨[.int k m], ⟨m, rfl, hm⟩, relPs_one (.int k m)⟩
    · rename_i hu
      obtain ⟨s, rfl, _⟩ := DataW.trod_string hu h
      exact ⟨[.str s], ⟨s, rfl⟩, relPs_one (.str s)⟩
    · rename_i e hu
      simp only [Bool.and_eq_true, Bool.not_eq_true'] at hp
      have hpos : 0 < P.cellsOf e := by
        rcases Nat.eq_zero_or_pos (P.cellsOf e) with h0 | h0
        · rw [h0] at hp; simp at hp
        · exact h0
      rcases DataW.trod_slice hu h with ⟨rfl, _⟩ | ⟨a, len, cap, elems, rest, m, _, rfl, _, _, hle, _, hlen, hel, _, _⟩
      · exact ⟨[.nil], .inl rfl, relPs_one .nil⟩
      · -- each element
        have each : ∀ i, i < len → ∃ ps, TyC P n e ps ∧ ∃ us, w.cells? 0 (a.add (i * P.cellsOf e)) (P.cellsOf e) = some us ∧ RelPs NoT w ps us := by
          intro i hi
          have h1 := hel i hi
          rw [List.getElem?_eq_getElem (by omega)] at h1
          obtain ⟨us, h2, h3⟩ := Option.bind_eq_some_iff.1 h1
          obtain ⟨ps, h4, h5⟩ := trod_rel n e m us _ hp.1 h3
          exact ⟨ps, h4, us, h2, h5⟩
        cases len with
        | zero => exact ⟨[.sl []], .inr ⟨[], rfl, fun p hp => by simp at hp⟩, relPs_one (.e0 (some a) cap)⟩
        | succ len =>
          have hspot : a = ⟨a.block, a.off, none⟩ ∧ a.block < w.heap.size := by
            obtain ⟨ps, _, us, h2, _⟩ := each 0 (by omega)
            obtain ⟨_, hl, hc⟩ := World.cells?_some h2
            have := hc 0 hpos
            rw [Nat.zero_mul] at this
            have e0 : (a.add 0).add 0 = a := by simp [Addr.add]
            rw [e0, List.getElem?_eq_getElem (by omega)] at this
            unfold World.cell? at this
            split at this
            · rename_i c _ _ hb
              have hb' := (Array.getElem?_eq_some_iff.1 hb).1
              refine ⟨?_, hb'⟩
              cases hs : a.spot with
              | none => cases a; simp at hs; subst hs; rfl
              | some s => rw [hs] at this; simp at this
            · cases this
          obtain ⟨ha, hb⟩ := hspot
          have hch : ∃ f : Nat → List PV, ∀ i, i < len + 1 → TyC P n e (f i) ∧ ∃ us, w.cells? 0 (a.add (i * P.cellsOf e)) (P.cellsOf e) = some us ∧ RelPs NoT w (f i) us := by
            refine ⟨fun i => if hi : i < len + 1 then Classical.choose (each i hi) else [], fun i hi => ?_⟩
            simp only [dif_pos hi]
            exact Classical.choose_spec (each i hi)
          obtain ⟨f, hf⟩ := hch
          refine ⟨[.sl ((List.range (len + 1)).map fun i => mkE P e (f i))], .inr ⟨_, rfl, fun p hp => ?_⟩, relPs_one ?_⟩
          · obtain ⟨i, hi, rfl⟩ := List.mem_map.1 hp
            exact ⟨f i, (hf i (by simpa using hi)).1, rfl⟩
          · have hll : ((List.range (len + 1)).map fun i => mkE P e (f i)).length = len + 1 := by simp
            have hcell : ∀ i, i < len + 1 → ∃ us : List Value, us.length = P.cellsOf e ∧ (f i).length = P.cellsOf e ∧ (∀ j, j < P.cellsOf e → w.cell? ⟨a.block, a.off + i * P.cellsOf e + j, none⟩ = us[j]?) ∧ RelPs NoT w (f i) us := by
              intro i hi
              obtain ⟨_, us, h2, h3⟩ := hf i hi
              obtain ⟨_, hl, hc⟩ := World.cells?_some h2
              refine ⟨us, hl, by rw [h3.1, hl], fun j hj => ?_, h3⟩
              rw [← hc j hj]
              congr 1
              rw [ha]
              simp only [Addr.add]
              by_cases e1 : i * P.cellsOf e = 0 <;> by_cases e2 : j = 0 <;> simp [e1, e2, Nat.add_assoc]
            have hget : ∀ (i : Nat) p, ((List.range (len + 1)).map fun i => mkE P e (f i))[i]? = some p → i < len + 1 ∧ p.cells = f i := by
              intro i p hp
              have hi : i < len + 1 := by have := (List.getElem?_eq_some_iff.1 hp).1; simpa using this
              rw [List.getElem?_map, List.getElem?_range hi] at hp
              simp at hp; subst hp
              exact ⟨hi, mkE_cells (hf i hi).1⟩
            have key := RelP.sl (T := NoT) (w := w) a.block a.off (P.cellsOf e) cap ((List.range (len + 1)).map fun i => mkE P e (f i)) (fun i j => (w.cell? ⟨a.block, a.off + i * P.cellsOf e + j, none⟩).getD undef) (fun h => h) hb (by rw [hll]; exact hle)
              (fun p hp => by
                obtain ⟨i, hi⟩ := List.mem_iff_getElem?.1 hp
                obtain ⟨h1, h2⟩ := hget i p hi
                obtain ⟨us, _, g2, _⟩ := hcell i h1
                rw [h2, g2])
              (fun i p j q hp hq => by
                obtain ⟨h1, h2⟩ := hget i p hp
                obtain ⟨us, g1, g2, g3, g4⟩ := hcell i h1
                rw [h2] at hq
                have hj : j < P.cellsOf e := by have := (List.getElem?_eq_some_iff.1 hq).1; omega
                rw [g3 j hj, List.getElem?_eq_getElem (by omega)]; rfl)
              (fun i p j q hp hq => by
                obtain ⟨h1, h2⟩ := hget i p hp
                obtain ⟨us, g1, g2, g3, g4⟩ := hcell i h1
                rw [h2] at hq
                have hj : j < P.cellsOf e := by have := (List.getElem?_eq_some_iff.1 hq).1; omega
                rw [g3 j hj, List.getElem?_eq_getElem (by omega)]
                exact g4.2 j q _ hq (List.getElem?_eq_getElem (by omega)))
            rw [hll, ← ha] at key
            exact key
    · rename_i fs hu
      simp only [Bool.and_eq_true, List.all_eq_true] at hp
      obtain ⟨xs, m, _, _, hl, hxl, hx⟩ := DataW.trod_struct hu h
      obtain ⟨ps, h1, h2⟩ := fields_rel (P := P) (w := w) (F := TyC P n) (cs := cs) fs.toList 0 (fun f hf => by
        obtain ⟨i, hi⟩ := List.mem_iff_getElem?.1 hf
        have hi' : fs[i]? = some f := by simpa using hi
        have := hx i f hi'
        have hlt : i < xs.length := by rw [hxl]; exact (Array.getElem?_eq_some_iff.1 hi').1
        rw [List.getElem?_eq_getElem hlt] at this
        exact trod_rel n f.type m _ _ (hp.2 f hf) this) (by rw [hl]; exact hp.1)
      exact ⟨ps, h1, by simpa using h2⟩
    · cases hp

theorem shut_bool' {w' : World} {base : Nat} {spare : Nat → Bool} {held : Bool} {t : TypeId} (ht : P.underlying t = some .bool) : DataW.Trod enc P w' base spare held t (.bool true) (.lit (.bool true)) [] :=
  ⟨1, by simp [DataW.trod, Value.cells, ht]⟩
/-- A parameter's pure value. -/
def TyA (P : Program) (n : Nat) (t : TypeId) (p : PV) : Prop := ∃ cs, TyC P n t cs ∧ p = mkE P t cs
def TyAll (P : Program) (n : Nat) : List TypeId → List PV → Prop
  | [], ps => ps = []
  | t :: ts, ps => ∃ p r, ps = p :: r ∧ TyA P n t p ∧ TyAll P n ts r

theorem arg_rel {n : Nat} {t : TypeId} {v : Value} {d : DataW H} {q : List MemPlace} {r : Reach} {b : Nat} (hp : plainT P n t = true) (hval : Value.okWide P w r b t v) (h : DataW.Trod enc P w 0 (fun _ => true) true t v d q) :
    ∃ p, TyA P n t p ∧ RelP NoT w p v := by
  obtain ⟨fuel, h⟩ := h
  obtain ⟨ps, h1, h2⟩ := trod_rel n t fuel _ _ hp h
  refine ⟨mkE P t ps, ⟨ps, h1, rfl⟩, ?_⟩
  cases n with
  | zero => exact h1.elim
  | succ n =>
    have h1' := h1
    simp only [TyC] at h1
    have single : ∀ p, ps = [p] → (∀ xs, v = .agg xs → False) → RelP NoT w p v := by
      intro p hps ho
      subst hps
      have hc : v.cells.toList = [v] := by cases v with
        | agg xs => exact (ho xs rfl).elim
        | _ => rfl
      rw [hc] at h2
      exact h2.2 0 p v rfl rfl
    unfold mkE kindT
    split at h1
    · rename_i hu
      obtain ⟨b, rfl⟩ := h1
      simp only [hu]
      exact single _ rfl fun xs e => by subst e; simp [Value.okWide, hu, Cell.okWide, Cell.ok] at hval
    · rename_i k hu
      obtain ⟨m, rfl, _⟩ := h1
      simp only [hu]
      exact single _ rfl fun xs e => by subst e; simp [Value.okWide, hu, Cell.okWide, Cell.ok] at hval
    · rename_i hu
      obtain ⟨s, rfl⟩ := h1
      simp only [hu]
      exact single _ rfl fun xs e => by subst e; simp [Value.okWide, hu, Cell.okWide, Cell.ok] at hval
    · rename_i e hu
      have ho : ∀ xs, v = .agg xs → False := fun xs e => by subst e; simp [Value.okWide, hu, Cell.okWide, Cell.ok] at hval
      rcases h1 with rfl | ⟨l, rfl, _⟩
      · simp only [hu]; exact single _ rfl ho
      · simp only [hu]; exact single _ rfl ho
    · rename_i fs hu
      simp only [hu]
      simp only [Value.okWide, hu] at hval
      obtain ⟨cs, rfl, _⟩ := hval
      exact .agg ps cs.toList h2.1 fun i p v hp hv => h2.2 i p v hp hv
    · exact h1.elim

theorem args_rel {n : Nat} {r : Reach} {b : Nat} : ∀ (ts : List TypeId) (vs : List Value) (ds : List (DataW H)) (q : List MemPlace), (ts.all fun t => plainT P n t) = true → (∀ (j : Nat) t v, ts[j]? = some t → vs[j]? = some v → Value.okWide P w r b t v) →
    DataW.TrodAll enc P w 0 (fun _ => true) true ts vs ds q → ∃ ps, TyAll P n ts ps ∧ RelPs NoT w ps vs
  | [], vs, ds, q, _, _, h => by
    cases vs with
    | nil => exact ⟨[], rfl, relPs_nil w⟩
    | cons v vs => cases ds <;> exact h.elim
  | t :: ts, vs, ds, q, hp, hval, h => by
    cases vs with
    | nil => cases ds <;> exact h.elim
    | cons v vs =>
      cases ds with
      | nil => exact h.elim
      | cons d ds =>
        obtain ⟨a, c, h1, h2, _⟩ := h
        simp only [List.all_cons, Bool.and_eq_true] at hp
        obtain ⟨p, g1, g2⟩ := arg_rel hp.1 (hval 0 t v rfl rfl) h1
        obtain ⟨ps, g3, g4⟩ := args_rel ts vs ds c hp.2 (fun j t v ht hv => hval (j + 1) t v (by simpa using ht) (by simpa using hv)) h2
        exact ⟨p :: ps, ⟨p, ps, rfl, g1, g3⟩, relPs_append (relPs_one g2) g4⟩

theorem trods_stay {w' : World} (hl : laidOutB P = true) (hb : Below w.heap.size w w') : ∀ (ts : List TypeId) (vs : List Value) (ds : List (DataW H)) (q : List MemPlace), (ts.all fun t => P.readableRec t && decide (t < P.types.size)) = true → (∀ x ∈ q, x.block < w.heap.size) →
    DataW.TrodAll enc P w 0 (fun _ => true) true ts vs ds q → DataW.TrodAll enc P w' 0 (fun b => decide (b < w.heap.size)) true ts vs ds q
  | [], vs, ds, q, _, _, h => by
    cases vs <;> cases ds <;> exact h
  | t :: ts, vs, ds, q, hr, hlt, h => by
    cases vs with
    | nil => cases ds <;> exact h.elim
    | cons v vs =>
      cases ds with
      | nil => exact h.elim
      | cons d ds =>
        obtain ⟨a, c, h1, h2, rfl⟩ := h
        simp only [List.all_cons, Bool.and_eq_true, decide_eq_true_eq] at hr
        exact ⟨a, c, Below.trod hl hr.1.1 hr.1.2 h1 hb (fun x hx => hlt x (List.mem_append_left _ hx)), trods_stay hl hb ts vs ds c hr.2 (fun x hx => hlt x (List.mem_append_right _ hx)) h2, rfl⟩

/-- What a law's row asks of each call. -/
theorem law_calls {n : Nat} {f : FuncId} {fn : Func} {s : ChangeSpec} {tb : TypeId} {apart : Bool} {W : World} {base : Nat} {args : Array Value} {ds gs : List (DataW H)} {before : List MemPlace} (hl : laidOutB P = true)
    (hr : (fn.params.toList.all fun t => P.readableRec t && decide (t < P.types.size)) = true) (hp : (fn.params.toList.all fun t => plainT P n t) = true) (hres : fn.resultTypes = #[tb]) (hb : P.underlying tb = some .bool) (hvs : s.vars = [])
    (hs : ∀ ds : List (DataW H), ds.length = fn.params.toList.length → s.fn H ds = { results := [.lit (.bool true)], args := ds })
    (hval : ∀ (j : Nat) t v, fn.params[j]? = some t → args[j]? = some v → Value.okWide P W .any base t v) (hW : DataW.Whole enc P fn.params.toList s.vars apart W args.toList ds gs before)
    (hpure : ∀ ps, TyAll P n fn.params.toList ps → PureFn P f ps (.bool true)) :
    Calls P f args W fun e W' => ∃ v, e = .returned v ∧ s.post enc P fn apart true false false W args v W' := by
  have hW' := hW
  obtain ⟨p, q, hA, hV, rfl, hfz, hnd⟩ := hW
  rw [hvs] at hV
  obtain ⟨rfl, rfl⟩ : gs = [] ∧ q = [] := by cases gs with
    | nil => exact ⟨rfl, hV⟩
    | cons g gs => exact hV.elim
  obtain ⟨ps, h1, h2⟩ := args_rel (n := n) (r := .any) (b := base) fn.params.toList args.toList ds p hp (fun j t v ht hv => hval j t v (by simpa using ht) (by simpa using hv)) hA
  refine ((hpure ps h1).elim.2 NoT W args.toList (fun b hb => hb.elim) h2).mono ?_
  rintro e W' ⟨v, rfl, hv, hB⟩
  obtain rfl : v = .bool true := by cases hv; rfl
  have hlen : ds.length = fn.params.toList.length := by
    have : ∀ (ts : List TypeId) (vs : List Value) (ds : List (DataW H)) (q : List MemPlace), DataW.TrodAll enc P W 0 (fun _ => true) true ts vs ds q → ds.length = ts.length := by
      intro ts
      induction ts with
      | nil => intro vs ds q h; cases vs <;> cases ds <;> first | rfl | exact h.elim
      | cons t ts ih =>
        intro vs ds q h
        cases vs with
        | nil => cases ds <;> exact h.elim
        | cons v vs =>
          cases ds with
          | nil => exact h.elim
          | cons d ds => obtain ⟨a, c, _, h2, _⟩ := h; simp [ih vs ds c h2]
    exact this _ _ _ _ hA
  have hlt : ∀ x ∈ p, x.block < W.heap.size := fun x hx => hW'.lt x (by simpa using hx)
  have e1 : s.fn H (ds ++ []) = { results := [.lit (.bool true)], args := ds } := by rw [List.append_nil]; exact hs ds hlen
  refine ⟨_, rfl, ds, [], _, [], p, [], hW', ?_, ?_, ?_, hB.frame _, fun h => by cases h⟩
  · rw [e1, hres]
    exact trodAll_mk1 (shut_bool' hb)
  · rw [e1]
    exact trods_stay hl hB fn.params.toList args.toList ds p hr hlt hA
  · rw [e1, hvs]
    exact rfl
end
end Go.Dv
