/- Parts of the proof, one after the other: The layer Dv, part 7: what the model's operations do: the simple ones. The layer Dv, part 8: slices of slices, len, max, min; values that are built. The layer Dv, part 9: values that are built; append; make. The layer Dv, part 10: append, make, slice literals. The layer Dv, part 11: append. -/
import Derived.Great.BuildSlice
import Derived.Test.YtkjjoalphllolaaM1
namespace Go.Dv
open Go.RowKit (Below)
section
variable {P : Program} {M : Nat → Prop} {w0 : W0} {μ : Nat → Loc} {L : DH} {w : World} {a : Act} {ρ : Operand → DV} {K : DV → DH → Prop} {o : Oper} {dr : Bool}

theorem pvI {T : Nat → Prop} {k : IntKind} {n : Int} {v : Value} (h : RelV T w μ L (.pv (.int k n)) v) : v = .int k n := by
  cases h with | pv _ _ h => cases h; rfl
theorem pvB {T : Nat → Prop} {b : Bool} {v : Value} (h : RelV T w μ L (.pv (.bool b)) v) : v = .bool b := by
  cases h with | pv _ _ h => cases h; rfl
theorem pvS {T : Nat → Prop} {s : ByteArray} {v : Value} (h : RelV T w μ L (.pv (.str s)) v) : v = .string s := by
  cases h with | pv _ _ h => cases h; rfl
theorem pvN {T : Nat → Prop} {v : Value} (h : RelV T w μ L (.pv .nil) v) : v = .slice none 0 0 := by
  cases h with | pv _ _ h => cases h; rfl
theorem relI (T : Nat → Prop) (k : IntKind) (n : Int) : RelV T w μ L (.pv (.int k n)) (.int k n) := .pv _ _ (.int k n)
theorem relB (T : Nat → Prop) (b : Bool) : RelV T w μ L (.pv (.bool b)) (.bool b) := .pv _ _ (.bool b)

theorem res_move {x : Operand} (ho : execOp a.eval o = pure (.value (a.eval x))) (h : HR M w0 μ L w) (hρ : Rho M μ L w ρ a) (hv : K (ρ x) L) : OpRes P M w0 μ L w K o a :=
  .val (by rw [ho]; rfl) (Out.id h (hρ.rel x) (hρ.und x) hv)

theorem pickV_ok {T : Nat → Prop} {t : Bool} {a b : DV} {va vb : Value} {K : DV → Prop} (ha : RelV T w μ L a va) (hb : RelV T w μ L b vb) (h : pickV t a b K) : ∃ x, K (.pv (.bool x)) ∧ (if t then va else vb) = .bool x := by
  have wh : ∀ {c : Bool} {x : Bool} {v : Value}, RelV T w μ L (.when c (.pv (.bool x))) v → c = true → v = .bool x := by
    intro c x v h hc
    cases h with
    | when _ _ _ h1 h2 => exact pvB (h1 hc)
  unfold pickV at h
  split at h
  · refine ⟨_, h, ?_⟩
    rw [pvB ha, pvB hb]
    cases t <;> rfl
  · refine ⟨_, h.2, ?_⟩
    rw [pvB hb]
    cases t
    · rfl
    · exact wh ha (h.1 rfl)
  · refine ⟨_, h.2, ?_⟩
    rw [pvB ha]
    cases t
    · exact wh hb (h.1 rfl)
    · rfl
  · refine ⟨_, h.2.2, ?_⟩
    cases t
    · exact wh hb (h.2.1 rfl)
    · exact wh ha (h.1 rfl)
  · exact h.elim

theorem res_pick {c x y : Operand} (ho : o.op = .pick c x y) (h : HR M w0 μ L w) (hρ : Rho M μ L w ρ a) (hv : vcOp P M w0 dr ρ L o K) : OpRes P M w0 μ L w K o a := by
  have hc := hρ.rel c
  have hx := hρ.rel x
  have hy := hρ.rel y
  have run : ∀ t, a.eval c = .bool t → (execOp a.eval o).run P w = .ok (.value (if t then a.eval x else a.eval y)) w := by
    intro t ht
    simp [execOp, ho, ht, asBool]
  have fin : ∀ t, a.eval c = .bool t → pickV t (ρ x) (ρ y) (fun d => K d L) → OpRes P M w0 μ L w K o a := by
    intro t ht hp
    obtain ⟨b, hK, hb⟩ := pickV_ok hx hy hp
    have := run t ht
    rw [hb] at this
    exact .val this (Out.id h (relB _ _) rfl hK)
  simp only [vcOp, ho] at hv
  split at hv
  · rename_i t e1
    rw [e1] at hc
    exact fin t (pvB hc) hv
  · rename_i c0 t e1
    rw [e1] at hc
    cases hc with
    | when _ _ _ h1 h2 => exact fin t (pvB (h1 hv.1)) hv.2
  · exact hv.elim

theorem res_nilCheck {x : Operand} (ho : o.op = .nilCheck x) (h : HR M w0 μ L w) (hρ : Rho M μ L w ρ a) (hv : vcOp P M w0 dr ρ L o K) : OpRes P M w0 μ L w K o a := by
  have hx := hρ.rel x
  have hxu := hρ.und x
  simp only [vcOp, ho] at hv
  have fin : K (ρ x) L → (execOp a.eval o).run P w = .ok (.value (a.eval x)) w → OpRes P M w0 μ L w K o a := fun hk hr => .val hr (Out.id h hx hxu hk)
  have ptr : ∀ ad, a.eval x = .pointer (some ad) → (execOp a.eval o).run P w = .ok (.value (a.eval x)) w := by
    intro ad he
    simp [execOp, ho, he]
  -- a pointer into the heap may stand for anything if its object is gone: then the check is not let
  generalize hd : ρ x = d at hv fin hx
  cases d with
  | ref k c =>
    simp only at hv
    cases hk : L.get k with
    | none => simp [hk] at hv
    | some ob =>
      cases ob <;> simp only [hk] at hv
      case var cs =>
        cases hx with
        | ref _ _ _ g1 g2 => exact fin hv (ptr _ (g2 cs hk))
  | eptr p c =>
    simp only at hv
    cases he : a.eval x
    all_goals rw [he] at hx
    all_goals cases hx
    exact fin hv (ptr _ he)
  | clo f a' b =>
    simp only at hv
    cases he : a.eval x
    all_goals rw [he] at hx
    all_goals cases hx
    refine fin hv ?_
    simp [execOp, ho, he]
  | _ => simp at hv

theorem res_unOp {op : UnOp} {t : TypeId} {x : Operand} (ho : o.op = .unOp op t x) (h : HR M w0 μ L w) (hρ : Rho M μ L w ρ a) (hv : vcOp P M w0 dr ρ L o K) : OpRes P M w0 μ L w K o a := by
  have hx := hρ.rel x
  simp only [vcOp, ho] at hv
  split at hv
  · rename_i b e1
    rw [e1] at hx
    exact .val (v := .bool !b) (w' := w) (by simp [execOp, ho, pvB hx, Op.unary]) (Out.id h (relB _ _) rfl hv)
  · rename_i k n e1
    rw [e1] at hx
    exact .val (v := .int k (k.wrap (0 - n))) (w' := w) (by simp [execOp, ho, pvI hx, Op.unary, Op.intArith]) (Out.id h (relI _ _ _) rfl hv)
  · rename_i k n e1
    rw [e1] at hx
    exact .val (v := .int k (k.wrap ((BitVec.ofInt k.bits (if k.signed then -1 else k.max) ^^^ BitVec.ofInt k.bits n).toNat : Int))) (w' := w) (by simp only [execOp, ho, pvI hx, Op.unary, Op.intBits]; rfl) (Out.id h (relI _ _ _) rfl hv)
  · exact hv.elim

theorem res_convert {s d : TypeId} {x : Operand} (ho : o.op = .convert s d x) (h : HR M w0 μ L w) (hρ : Rho M μ L w ρ a) (hv : vcOp P M w0 dr ρ L o K) : OpRes P M w0 μ L w K o a := by
  have hx := hρ.rel x
  simp only [vcOp, ho] at hv
  split at hv
  · rename_i k1 k k2 n e1 e2 e3
    rw [e3] at hx
    exact .val (v := .int k (k.wrap n)) (w' := w) (by simp [execOp, ho, pvI hx, convert, run_underlying e1, run_underlying e2, Conv.intToInt]) (Out.id h (relI _ _ _) rfl hv)
  · rename_i k1 k2 n e1 e2 e3
    rw [e3] at hx
    exact .val (v := .string (Utf8.encode n)) (w' := w) (by simp [execOp, ho, pvI hx, convert, run_underlying e1, run_underlying e2, Conv.intToString]) (Out.id h (.pv _ _ (.str _)) rfl hv)
  · exact hv.elim

theorem res_index {t : TypeId} {x i : Operand} (ho : o.op = .index t x i) (h : HR M w0 μ L w) (hρ : Rho M μ L w ρ a) (hv : vcOp P M w0 dr ρ L o K) : OpRes P M w0 μ L w K o a := by
  have hx := hρ.rel x
  have hi := hρ.rel i
  simp only [vcOp, ho] at hv
  split at hv
  · rename_i s k ix e1 e2 e3
    obtain ⟨n, b, rfl, hb, hK⟩ := hv
    rw [e2] at hx
    rw [e3] at hi
    have hb' : (if (0 : Int) ≤ (n : Int) then s[((n : Int)).toNat]? else none).map UInt8.toNat = some b := by rw [if_pos (Int.natCast_nonneg n), Int.toNat_natCast]; exact hb
    cases hc : (if (0 : Int) ≤ (n : Int) then s[((n : Int)).toNat]? else none) with
    | none => rw [hc] at hb'; cases hb'
    | some c =>
      rw [hc] at hb'
      have hcb : c.toNat = b := by simpa using hb'
      subst hcb
      have hc' : s[n]? = some c := by rw [if_pos (Int.natCast_nonneg n), Int.toNat_natCast] at hc; exact hc
      exact .val (v := .int .u8 (c.toNat : Int)) (w' := w) (by simp only [execOp, ho, pvS hx, pvI hi]; simp [Instr.index, asIntOf, run_underlying e1, hc']) (Out.id h (relI _ _ _) rfl hK)
  · exact hv.elim

theorem map_rel (hρ : Rho M μ L w ρ a) (xs : Array Operand) : (xs.toList.map ρ).length = (xs.map a.eval).toList.length ∧
    (∀ (i : Nat) d v, (xs.toList.map ρ)[i]? = some d → (xs.map a.eval).toList[i]? = some v → RelV (Tot M μ L) w μ L d v) ∧ DV.unders L.next (xs.toList.map ρ) = true := by
  refine ⟨by simp, fun i d v hd hv => ?_, ?_⟩
  · simp only [List.getElem?_map, Array.toList_map] at hd hv
    cases hx : xs.toList[i]? with
    | none => simp [hx] at hd
    | some x => simp [hx] at hd hv; subst hd; subst hv; exact hρ.rel x
  · rw [unders_mem]
    intro d hd
    obtain ⟨x, _, rfl⟩ := List.mem_map.1 hd
    exact hρ.und x

theorem res_makeFunc {fn : Fn} {x y : Array Operand} (ho : o.op = .makeFunc fn x y) (h : HR M w0 μ L w) (hρ : Rho M μ L w ρ a) (hv : vcOp P M w0 dr ρ L o K) : OpRes P M w0 μ L w K o a := by
  simp only [vcOp, ho] at hv
  cases fn with
  | func f =>
    obtain ⟨a1, a2, a3⟩ := map_rel hρ x
    obtain ⟨b1, b2, b3⟩ := map_rel hρ y
    refine .val (v := .func (.func f) (x.map a.eval) (y.map a.eval)) (w' := w) (by simp [execOp, ho, Instr.makeFunc]) (Out.id h ?_ ?_ hv)
    · exact .clo f _ _ (x.map a.eval).toList (y.map a.eval).toList a1 b1 a2 b2
    · simp [DV.under, a3, b3]
  | _ => simp at hv

theorem res_makeMap {t : TypeId} {r : Option Operand} (ho : o.op = .makeMap t r) (h : HR M w0 μ L w) (hv : vcOp P M w0 dr ρ L o K) : OpRes P M w0 μ L w K o a := by
  simp only [vcOp, ho] at hv
  cases r with
  | some x => simp at hv
  | none =>
    simp only at hv
    obtain ⟨hs, hr⟩ := h.new (w1 := w) (.mp []) ⟨w.heap.size, 0⟩ (.map #[] 0) ⟨rfl, rfl, rfl, rfl⟩ rfl rfl (fun hs => ⟨#[], 0, by rw [updμ_same]; exact heap_push_new w _, rfl, fun i kv e hi _ => by simp at hi⟩)
    refine .val (v := .map (some w.heap.size)) (w' := w.alloc (.map #[] 0)) (by simp [execOp, ho, Instr.makeMap]) ⟨_, .mp L.next, _, hv, hr, .mp _ _ rfl fun es _ => by rw [updμ_same], ?_, hs⟩
    simp [DV.under, DH.push, Nat.blt_eq]

theorem res_extract {x : Operand} {i : Nat} (ho : o.op = .extract x i) (h : HR M w0 μ L w) (hρ : Rho M μ L w ρ a) (hv : vcOp P M w0 dr ρ L o K) : OpRes P M w0 μ L w K o a := by
  have hx := hρ.rel x
  have hxu := hρ.und x
  simp only [vcOp, ho] at hv
  generalize ρ x = d at hv hx hxu
  cases d with
  | tup l =>
    simp only at hv
    cases hl : l[i]? with
    | none => simp [hl] at hv
    | some d =>
      simp only [hl] at hv
      cases he : a.eval x
      all_goals rw [he] at hx
      all_goals cases hx
      rename_i vs h1 h2
      have hlt : i < vs.length := by have := getE_lt hl; omega
      have hvi : vs[i]? = some vs[i] := List.getElem?_eq_getElem hlt
      simp only [DV.under] at hxu
      exact .val (v := vs[i]) (w' := w) (by simp [execOp, ho, Instr.extract, he, hvi]) (Out.id h (h2 i d _ hl hvi) (unders_iff.1 hxu i d hl) hv)
  | _ => simp at hv

theorem run_field {s : TypeId} {f : Nat} {fd : Field} (h : fieldOf P s f = some fd) : ∃ fs, P.underlying s = some (.struct fs) ∧ fs[f]? = some fd := by
  unfold fieldOf at h
  cases hu : P.underlying s with
  | none => simp [hu] at h
  | some d =>
    cases d <;> simp [hu] at h
    exact ⟨_, rfl, by simpa using h⟩

theorem res_fieldAddr {s : TypeId} {x : Operand} {f : Nat} (ho : o.op = .fieldAddr s x f) (h : HR M w0 μ L w) (hρ : Rho M μ L w ρ a) (hv : vcOp P M w0 dr ρ L o K) : OpRes P M w0 μ L w K o a := by
  have hx := hρ.rel x
  have hxu := hρ.und x
  simp only [vcOp, ho] at hv
  cases hf : fieldOf P s f with
  | none => simp [hf] at hv
  | some fd =>
    obtain ⟨fs, hu, hfs⟩ := run_field hf
    simp only [hf] at hv
    generalize hz : Nat.beq (szOf P fd.type) 0 = z at hv
    cases z with
    | true => simp at hv
    | false =>
      have hsz : szOf P fd.type ≠ 0 := by intro e; rw [e] at hz; cases hz
      have hinfo : ∃ i, P.info? fd.type = some i := by
        unfold szOf Program.cellsOf at hsz
        cases hi : P.info? fd.type with
        | none => simp [hi] at hsz
        | some i => exact ⟨i, rfl⟩
      obtain ⟨i, hi⟩ := hinfo
      have run : ∀ b c, a.eval x = .pointer (some ⟨b, c, none⟩) → (execOp a.eval o).run P w = .ok (.value (.pointer (some ⟨b, c + fd.offset, none⟩))) w := by
        intro b c he
        simp [execOp, ho, Instr.fieldAt, run_underlying hu, hfs, he, Instr.sureAddr, fieldPlace, run_szOf hi, hsz, add_none]
      generalize hd : ρ x = d at hv hx hxu
      cases d with
      | ref k c =>
        simp only at hv
        cases hk : L.get k with
        | none => simp [hk] at hv
        | some ob =>
          cases ob <;> simp only [hk] at hv
          case var cs =>
            cases hx with
            | ref _ _ _ g1 g2 => exact .val (run _ _ (g2 cs hk)) (Out.id h (.ref _ _ _ rfl fun _ _ => rfl) (by simpa [DV.under] using hxu) hv)
      | aref k n i c =>
        simp only at hv
        cases hk : L.get k with
        | none => simp [hk] at hv
        | some ob =>
          cases ob <;> simp only [hk] at hv
          case arr sz es =>
            obtain ⟨hn, hin, hv⟩ := hv
            cases hx with
            | aref _ _ _ _ _ g1 g2 g3 =>
              have he := (g2 sz es hk).2 hn hin
              exact .val (run _ _ he) (Out.id h (.aref _ _ _ _ _ rfl (fun sz' es' hk' => by rw [hk] at hk'; cases hk'; exact ⟨by omega, fun _ _ => by rw [Nat.add_assoc]⟩) (fun es' hk' => by rw [hk] at hk'; cases hk')) (by simpa [DV.under] using hxu) hv)
      | eptr p c =>
        simp only at hv
        cases he : a.eval x
        all_goals rw [he] at hx
        all_goals cases hx
        rename_i b off val h1 h2 h3 h4
        refine .val (run _ _ he) (Out.id h ?_ rfl hv)
        rw [Nat.add_assoc]
        exact .eptr p _ b off val h1 h2 h3 h4
      | _ => simp at hv

theorem part_rel {T : Nat → Prop} {K : DV → Prop} {t : TypeId} {cs : List DV} {c : Nat} {vs : List Value} (hl : ldCells P t cs c K) (h1 : cs.length = vs.length)
    (h2 : ∀ (i : Nat) d v, cs[i]? = some d → vs[i]? = some v → RelV T w μ L d v) {n : Nat} (hu : DV.unders n cs = true) :
    ∃ d v, (part t ⟨vs⟩ c).run P w = .ok v w ∧ RelV T w μ L d v ∧ d.under n = true ∧ K d := by
  unfold ldCells at hl
  cases hk : kindT P t with
  | none => simp [hk] at hl
  | some g =>
    obtain ⟨i, hi⟩ := info_of_kind hk
    cases g with
    | true =>
      simp only [hk] at hl
      cases hb : Nat.ble (c + szOf P t) cs.length with
      | false => simp [hb] at hl
      | true =>
        simp only [hb] at hl
        have hb' : c + szOf P t ≤ cs.length := by simpa using hb
        refine ⟨_, .agg ⟨(vs.drop c).take (szOf P t)⟩, ?_, ?_, ?_, hl⟩
        · simp [part, run_isAgg_kind hk, run_szOf hi, List.extract_eq_take_drop]
        · refine .agg _ _ (by simp [h1]) fun j d v hd hv => ?_
          simp only [List.getElem?_take, List.getElem?_drop] at hd hv
          split at hd
          · rename_i g; rw [if_pos g] at hv; exact h2 _ _ _ hd hv
          · cases hd
        · simp only [DV.under]
          rw [unders_mem]
          intro d hd
          exact unders_mem.1 hu d (List.mem_of_mem_drop (List.mem_of_mem_take hd))
    | false =>
      simp only [hk] at hl
      cases hd : cs[c]? with
      | none => simp [hd] at hl
      | some d =>
        simp only [hd] at hl
        have hlt : c < vs.length := by have := getE_lt hd; omega
        have hvc : vs[c]? = some vs[c] := List.getElem?_eq_getElem hlt
        refine ⟨d, vs[c], ?_, h2 c d _ hd hvc, unders_iff.1 hu c d hd, hl⟩
        simp [part, run_isAgg_kind hk, hvc]

theorem res_field {s : TypeId} {x : Operand} {f : Nat} (ho : o.op = .field s x f) (h : HR M w0 μ L w) (hρ : Rho M μ L w ρ a) (hv : vcOp P M w0 dr ρ L o K) : OpRes P M w0 μ L w K o a := by
  have hx := hρ.rel x
  have hxu := hρ.und x
  simp only [vcOp, ho] at hv
  cases hf : fieldOf P s f with
  | none => simp [hf] at hv
  | some fd =>
    obtain ⟨fs, hu, hfs⟩ := run_field hf
    simp only [hf] at hv
    generalize ρ x = d at hv hx hxu
    cases d with
    | agg cs =>
      simp only at hv
      cases he : a.eval x
      all_goals rw [he] at hx
      all_goals cases hx
      rename_i vs h1 h2
      obtain ⟨d, v, hr, hrel, hun, hK⟩ := part_rel (P := P) hv h1 h2 (by simpa [DV.under] using hxu : DV.unders L.next cs = true)
      exact .val (v := v) (w' := w) (by simp [execOp, ho, Instr.field, run_underlying hu, hfs, he, asAgg, hr]) (Out.id h hrel hun hK)
    | _ => simp at hv

theorem run_elem {t e : TypeId} (h : elemT P t = some e) : P.underlying t = some (.slice e) := by
  unfold elemT at h
  cases hu : P.underlying t with
  | none => simp [hu] at h
  | some d => cases d <;> simp [hu] at h; rw [h]

theorem run_arr {t e : TypeId} {n : Nat} (h : arrT P t = some (n, e)) : P.underlying t = some (.array n e) := by
  unfold arrT at h
  split at h
  · rename_i hu; rw [hu]; simp at h; rw [h.1, h.2]
  · cases h
theorem blt_lt {a b : Nat} (h : Nat.blt a b = true) : a < b := Nat.le_of_ble_eq_true h
theorem res_indexAddr {t : TypeId} {x i : Operand} (ho : o.op = .indexAddr t x i) (h : HR M w0 μ L w) (hρ : Rho M μ L w ρ a) (hv : vcOp P M w0 dr ρ L o K) : OpRes P M w0 μ L w K o a := by
  have hx := hρ.rel x
  have hi := hρ.rel i
  have hxu := hρ.und x
  simp only [vcOp, ho] at hv
  cases he : elemT P t with
  | none =>
    rw [he] at hv
    generalize hd : ρ x = d at hv hx hxu
    generalize hdi : ρ i = di at hv hi
    split at hv
    · rename_i e1; cases e1
    · rename_i e1; cases e1
    · rename_i e1; cases e1
    · rename_i k c kk ix _
      split at hv
      · rename_i n e cs m ha hk
        generalize hc : (infoB P e && Nat.blt m n) = b at hv
        cases b with
        | false => exact hv.elim
        | true =>
          simp only [Bool.and_eq_true] at hc
          obtain ⟨inf, hinf⟩ := Option.isSome_iff_exists.1 hc.1
          have hmn : m < n := blt_lt hc.2
          have hu := run_arr ha
          have hiv := pvI hi
          cases hx with
          | ref _ _ _ g1 g2 =>
            have hp := g2 cs hk
            have hr : (execOp a.eval o).run P w = .ok (.value (.pointer (some ⟨(μ k).blk, c + m * szOf P e, none⟩))) w := by
              have h3' : (m : Int) < (n : Int) := by omega
              simp [execOp, ho, Instr.indexAt, hp, hiv, asIntOf, run_underlying hu, run_szOf hinf, Instr.sureAddr, hmn, add_none]
            exact .val hr (Out.id h (.ref _ _ _ rfl fun cs' hk' => rfl) (by simpa [DV.under] using hxu) hv)
      · exact hv.elim
    · exact hv.elim
  | some e =>
    have hu := run_elem he
    have run : ∀ (k : IntKind) (n : Nat) (ad : Addr) (len cap : Nat), infoB P e = true → a.eval i = .int k (n : Int) → a.eval x = .slice (some ad) len cap → n < len →
        (execOp a.eval o).run P w = .ok (.value (.pointer (some (ad.add (n * szOf P e))))) w := by
      intro k n ad len cap hinf h1 h2 h3
      obtain ⟨inf, hinf⟩ := Option.isSome_iff_exists.1 hinf
      have h3' : (n : Int) < (len : Int) := by omega
      simp [execOp, ho, Instr.indexAt, h1, h2, asIntOf, run_underlying hu, run_szOf hinf, h3]
    rw [he] at hv
    generalize hd : ρ x = d at hv hx hxu
    generalize hdi : ρ i = di at hv hi
    split at hv
    · rename_i _ _ e' l k ix e1
      obtain rfl := Option.some.inj e1
      obtain ⟨hinf, n, p, hn, hp, hc, hv⟩ := hv
      have hiv := pvI hi
      rw [hn] at hiv
      cases hx with
      | pv _ _ hx =>
        have hlt := getE_lt hp
        generalize hlx : PV.sl l = pl at hx
        generalize hvx : a.eval x = vx at hx
        cases hx with
        | sl b off sz cap l' val h1 h2 h3 h4 h5 h6 =>
          obtain rfl : l = l' := by cases hlx; rfl
          have hsz : szOf P e = sz := by rw [← beq_of hc]; exact h4 p (List.mem_of_getElem? hp)
          have hr := run k n _ _ _ hinf hiv hvx hlt
          rw [add_none] at hr
          refine .val hr (Out.id h ?_ rfl hv)
          rw [hsz]
          exact .eptr p 0 b (off + n * sz) (fun j => val n j) h1 h2 (fun j q hj => h5 n p j q hp hj) (fun j q hj => h6 n p j q hp hj)
        | e0 a' c => cases hlx; simp at hp
        | _ => cases hlx
    · rename_i _ _ e' k n k' ix e1
      obtain rfl := Option.some.inj e1
      cases hk : L.get k with
      | none => simp [hk] at hv
      | some ob =>
        cases ob <;> simp only [hk] at hv
        case var cs =>
          obtain ⟨hinf, hsz, m, hm, hmn, hv⟩ := hv
          have hiv := pvI hi
          rw [hm] at hiv
          cases hx with
          | vbuf _ _ _ g1 g2 =>
            obtain ⟨he, _⟩ := g2 cs hk
            have hr := run k' m _ _ _ hinf hiv he hmn
            rw [add_none, beq_of hsz, Nat.mul_one, Nat.zero_add] at hr
            exact .val hr (Out.id h (.ref _ _ _ rfl fun cs' hk' => rfl) (by simpa [DV.under] using hxu) hv)
    · rename_i _ _ e' k n k' ix e1
      obtain rfl := Option.some.inj e1
      cases hk : L.get k with
      | none => simp [hk] at hv
      | some ob =>
        cases ob <;> simp only [hk] at hv
        case arr sz es =>
          generalize hc : (infoB P e && Nat.beq sz (szOf P e)) = c at hv
          cases c with
          | false => simp at hv
          | true =>
            simp only [Bool.and_eq_true] at hc
            obtain ⟨hn, m, hm, hmn, hv⟩ := hv
            have hiv := pvI hi
            rw [hm] at hiv
            cases hx with
            | buf _ _ _ g1 g2 g3 =>
              rcases (g2 sz es hk).2 hn with ⟨hc0, h0, _⟩ | ⟨hc0, he⟩
              · omega
              · have hr := run k' m _ _ _ hc.1 hiv he hmn
                rw [add_none] at hr
                refine .val hr (Out.id h ?_ (by simpa [DV.under] using hxu) hv)
                exact .aref k n m 0 _ rfl (fun sz' es' hk' => by rw [hk] at hk'; cases hk'; exact ⟨by omega, fun _ _ => by simp [← beq_of hc.2]⟩) (fun es' hk' => by rw [hk] at hk'; cases hk')
        case fz es =>
          obtain ⟨hinf, hn, m, p, hm, hp, hc, hv⟩ := hv
          have hiv := pvI hi
          rw [hm] at hiv
          have hlt := getE_lt hp
          have hrel := fz_relP h hk hx hn
          have hbuf : bufVal (μ k) n (a.eval x) := by
            cases hx with
            | buf _ _ _ g1 g2 g3 => exact (g3 es hk).2 hn
          rcases hbuf with ⟨hc0, h0, _⟩ | ⟨hc0, heq⟩
          · omega
          · rw [heq] at hrel
            rw [hn] at heq
            generalize hlx : PV.sl es = pl at hrel
            generalize hvx : Value.slice (some ⟨(μ k).blk, 0, none⟩) n (μ k).cap = vx at hrel
            cases hrel with
            | sl b off sz cap l' val h1 h2 h3 h4 h5 h6 =>
              obtain rfl : es = l' := by cases hlx; rfl
              obtain ⟨rfl, rfl⟩ : b = (μ k).blk ∧ off = 0 := by simp at hvx; exact ⟨hvx.1.1.symm, hvx.1.2.symm⟩
              have hsz : szOf P e = sz := by rw [← beq_of hc]; exact h4 p (List.mem_of_getElem? hp)
              have hr := run k' m _ _ _ hinf hiv heq hlt
              rw [add_none] at hr
              refine .val hr (Out.id h ?_ rfl hv)
              rw [hsz]
              exact .eptr p 0 _ (0 + m * sz) (fun j => val m j) h1 h2 (fun j q hj => h5 m p j q hp hj) (fun j q hj => h6 m p j q hp hj)
            | e0 a' c => cases hlx; simp at hp
            | _ => cases hlx
    · rename_i e1; cases e1
    · exact hv.elim
end
end Go.Dv
namespace Go.Dv
open Go.RowKit (Below)
section
variable {P : Program} {M : Nat → Prop} {w0 : W0} {μ : Nat → Loc} {L : DH} {w : World} {a : Act} {ρ : Operand → DV} {K : DV → DH → Prop} {o : Oper} {dr : Bool}

theorem run_bound {x : Operand} {n y : Nat} {code : Go.BoundsCode} {d : DV} (hr : RelV (Tot M μ L) w μ L d (a.eval x)) (h : loOk (some d) n) (hle : n ≤ y) : (Instr.sliceBound (a.eval x) y code).run P w = .ok n w := by
  unfold loOk at h
  split at h
  · rename_i e; cases e
  · rename_i k m e
    cases e
    have := pvI hr
    rw [this, h]
    have h2 : (n : Int) ≤ (y : Int) := by omega
    simp [Instr.sliceBound, asIntOf, hle]
  · exact h.elim

theorem run_bounds {lo hi : Option Operand} {len cap x y : Nat} (hρ : Rho M μ L w ρ a) (hlo : loOk (lo.map ρ) x) (hhi : hiOk (hi.map ρ) y len) (hxy : x ≤ y) (hy : y ≤ cap) :
    (Instr.sliceBounds true len cap (lo.map a.eval) (hi.map a.eval) none).run P w = .ok (x, y, cap) w := by
  unfold Instr.sliceBounds
  cases hi with
  | none =>
    have hy' : y = len := by simpa [hiOk] using hhi
    subst hy'
    cases lo with
    | none =>
      have hx' : x = 0 := by simpa [loOk] using hlo
      subst hx'
      simp
    | some l =>
      have := run_bound (P := P) (code := .sliceB) (hρ.rel l) hlo hxy
      simp [this]
  | some g =>
    have hg : loOk (some (ρ g)) y := by
      simp only [Option.map_some] at hhi
      unfold hiOk at hhi
      unfold loOk
      split at hhi <;> simp_all
    have h1 := run_bound (P := P) (code := .sliceAcap) (hρ.rel g) hg hy
    cases lo with
    | none =>
      have hx' : x = 0 := by simpa [loOk] using hlo
      subst hx'
      simp [h1]
    | some l =>
      have := run_bound (P := P) (code := .sliceB) (hρ.rel l) hlo hxy
      simp [h1, this]

theorem run_bounds0 {lo hi : Option Operand} {m : Operand} {len cap : Nat} (hρ : Rho M μ L w ρ a) (hlo : loOk (lo.map ρ) 0) (hhi : hi.isSome = true ∧ loOk (hi.map ρ) 0) (hm : loOk (some (ρ m)) 0) :
    (Instr.sliceBounds true len cap (lo.map a.eval) (hi.map a.eval) (some (a.eval m))).run P w = .ok (0, 0, 0) w := by
  unfold Instr.sliceBounds
  have h0 := run_bound (P := P) (y := cap) (code := .slice3Acap) (hρ.rel m) hm (Nat.zero_le _)
  cases hi with
  | none => cases hhi.1
  | some g =>
    have h1 := run_bound (P := P) (y := 0) (code := .slice3B) (hρ.rel g) hhi.2 (Nat.le_refl _)
    cases lo with
    | none => simp [h0, h1]
    | some l =>
      have h2 := run_bound (P := P) (y := 0) (code := .slice3C) (hρ.rel l) hlo (Nat.le_refl _)
      simp [h0, h1, h2]
theorem res_slice {t : TypeId} {x : Operand} {lo hi mx : Option Operand} (ho : o.op = .slice t x lo hi mx) (h : HR M w0 μ L w) (hρ : Rho M μ L w ρ a) (hv : vcOp P M w0 dr ρ L o K) : OpRes P M w0 μ L w K o a := by
  have hx := hρ.rel x
  simp only [vcOp, ho] at hv
  cases he : elemT P t with
  | none => simp [he] at hv
  | some e =>
    have hu := run_elem he
    rw [he] at hv
    generalize hd : ρ x = d at hv hx
    have run : ∀ (ad : Option Addr) (len cap x' y : Nat), infoB P e = true → a.eval x = .slice ad len cap → loOk (lo.map ρ) x' → hiOk (hi.map ρ) y len → x' ≤ y → y ≤ cap → mx = none →
        (execOp a.eval o).run P w = .ok (.value (.slice (if cap = x' then ad else ad.map (·.add (x' * szOf P e))) (y - x') (cap - x'))) w := by
      intro ad len cap x' y hinf h1 h2 h3 h4 h5 h6
      obtain ⟨inf, hinf⟩ := Option.isSome_iff_exists.1 hinf
      subst h6
      have hb := run_bounds (P := P) hρ h2 h3 h4 h5
      simp [execOp, ho, Instr.sliceAt, run_underlying hu, Instr.slice, h1, hb, run_szOf hinf]
    split at hv
    · rename_i _ _ e' l e1
      obtain rfl := Option.some.inj e1
      obtain ⟨hinf, hc, x', y, h1, h2, h3, h4, hv⟩ := hv
      cases hx with
      | pv _ _ hx =>
        generalize hlx : PV.sl l = pl at hx
        generalize hvx : a.eval x = vx at hx
        cases hx with
        | sl b off sz cap l' val g1 g2 g3 g4 g5 g6 =>
          obtain rfl : l = l' := by cases hlx; rfl
          refine .val (run _ _ _ x' y hinf hvx h1 h2 h3 (by omega) rfl) (Out.id h ?_ rfl hv)
          refine .pv _ _ ?_
          by_cases hxy : x' = y
          · have : (l.drop x').take (y - x') = [] := by subst hxy; simp
            rw [this, show y - x' = 0 by omega]
            exact .e0 _ _
          · have hcx : ¬ cap = x' := by omega
            rw [if_neg hcx]
            simp only [Option.map_some, add_none]
            have hlt : x' < l.length := by omega
            have hsz : sz = szOf P e := by
              have hm := List.getElem_mem (l := l) hlt
              have := List.all_eq_true.1 hc _ hm
              simp only [Bool.and_eq_true] at this
              rw [← g4 _ hm]; exact beq_of this.1
            have hlen : ((l.drop x').take (y - x')).length = y - x' := by simp; omega
            have hh : RelP (Tot M μ L) w (.sl ((l.drop x').take (y - x'))) (.slice (some ⟨b, off + x' * szOf P e, none⟩) ((l.drop x').take (y - x')).length (cap - x')) := by
              refine .sl b (off + x' * szOf P e) sz (cap - x') _ (fun i j => val (x' + i) j) g1 g2 (by rw [hlen]; omega) (fun p hp => g4 p (List.mem_of_mem_drop (List.mem_of_mem_take hp))) (fun i p j q hp hq => ?_) (fun i p j q hp hq => ?_)
              all_goals
                rw [List.getElem?_take] at hp
                split at hp
                case isFalse => cases hp
                rw [List.getElem?_drop] at hp
              · have := g5 (x' + i) p j q hp hq
                rw [← this, hsz, Nat.add_mul]
                congr 2
                omega
              · exact g6 (x' + i) p j q hp hq
            rw [hlen] at hh
            exact hh
        | e0 a' c =>
          cases hlx
          have hy : y = 0 := by simpa using h4
          have hx0 : x' = 0 := by omega
          subst hy; subst hx0
          refine .val (run _ _ _ 0 0 hinf hvx h1 h2 (by omega) (by omega) rfl) (Out.id h ?_ rfl hv)
          exact .pv _ _ (.e0 _ _)
        | _ => cases hlx
    · rename_i _ _ e' e1
      obtain rfl := Option.some.inj e1
      obtain ⟨hinf, x', y, h1, h2, h3, h4, hv⟩ := hv
      subst h3; subst h4
      have hvx := pvN hx
      have hr := run _ _ _ 0 0 hinf hvx h1 h2 (by omega) (by omega) rfl
      simp at hr
      exact .val hr (Out.id h (.pv _ _ .nil) rfl hv)
    · rename_i _ _ e' m l e1
      obtain rfl := Option.some.inj e1
      obtain ⟨hinf, h1, h2, h3, hv⟩ := hv
      obtain ⟨inf, hinf'⟩ := Option.isSome_iff_exists.1 hinf
      obtain ⟨ad, n, cap, hvx⟩ : ∃ ad n cap, a.eval x = .slice ad n cap := by
        generalize a.eval x = vx at hx
        cases hx with
        | pv _ _ hp =>
          generalize hlx : PV.sl l = pl at hp
          cases hp with
          | sl b off sz cap l' val g1 g2 g3 g4 g5 g6 => exact ⟨_, _, _, rfl⟩
          | e0 a' c => exact ⟨_, _, _, rfl⟩
          | _ => cases hlx
      have hb := run_bounds0 (P := P) (len := n) (cap := cap) hρ h1 h2 h3
      refine .val (v := .slice ad 0 0) (by simp [execOp, ho, Instr.sliceAt, run_underlying hu, Instr.slice, hvx, hb, run_szOf hinf']) (Out.id h (.e0 ad) rfl hv)
    · rename_i _ _ e' m e1
      obtain rfl := Option.some.inj e1
      obtain ⟨hinf, h1, h2, h3, hv⟩ := hv
      obtain ⟨inf, hinf'⟩ := Option.isSome_iff_exists.1 hinf
      have hvx := pvN hx
      have hb := run_bounds0 (P := P) (len := 0) (cap := 0) hρ h1 h2 h3
      refine .val (v := .slice none 0 0) (by simp [execOp, ho, Instr.sliceAt, run_underlying hu, Instr.slice, hvx, hb, run_szOf hinf']) (Out.id h (.e0 none) rfl hv)
    · exact hv.elim

theorem run_bi {c : Call} {b : Builtin} (ho : o.op = .call c) (hc : c.callee = .builtin b) :
    execOp a.eval o = builtin b c.argTypes o.type (c.args.map fun | .const _ => true | _ => false) (c.args.map a.eval) := by
  simp only [execOp, ho, resolve, hc, pure_bind, invoke]
  rfl

theorem args_two {xs : Array Operand} {d1 d2 : DV} (h : xs.toList.map ρ = [d1, d2]) : ∃ x y, xs = #[x, y] ∧ ρ x = d1 ∧ ρ y = d2 := by
  obtain ⟨l⟩ := xs
  rcases l with _ | ⟨x, _ | ⟨y, _ | ⟨z, r⟩⟩⟩ <;> simp at h
  exact ⟨x, y, rfl, h.1, h.2⟩
theorem args_one {xs : Array Operand} {d1 : DV} (h : xs.toList.map ρ = [d1]) : ∃ x, xs = #[x] ∧ ρ x = d1 := by
  obtain ⟨l⟩ := xs
  rcases l with _ | ⟨x, _ | ⟨y, r⟩⟩ <;> simp at h
  exact ⟨x, rfl, h⟩
theorem ty_two {xs : Array TypeId} {d1 d2 : TypeId} (h : xs.toList = [d1, d2]) : xs = #[d1, d2] := by
  obtain ⟨l⟩ := xs; simp at h; subst h; rfl
theorem ty_one {xs : Array TypeId} {d1 : TypeId} {r : List TypeId} (h : xs.toList = d1 :: r) : xs[0]? = some d1 := by
  obtain ⟨l⟩ := xs; simp at h; subst h; rfl

theorem res_len {c : Call} {d : DV} (ho : o.op = .call c) (hc : c.callee = .builtin .len) (ha : c.args.toList.map ρ = [d]) (h : HR M w0 μ L w) (hρ : Rho M μ L w ρ a)
    (hv : vcBuiltin P .len c.argTypes.toList [d] L K) : OpRes P M w0 μ L w K o a := by
  obtain ⟨x, hx, rfl⟩ := args_one ha
  have hr := hρ.rel x
  simp only [vcBuiltin] at hv
  split at hv
  · rename_i t r ht
    have ht' := ty_one ht
    have run : ∀ (n : Nat), (Builtin.len_ c.argTypes o.type #[a.eval x]).run P w = .ok (goInt n) w → K (.pv (.int .i64 n)) L → OpRes P M w0 μ L w K o a := by
      intro n hn hk
      refine .val (v := .int .i64 n) (w' := w) ?_ (Out.id h (relI _ _ _) rfl hk)
      rw [run_bi ho hc, hx]
      simp [builtin, hn, goInt]
    have lenS : ∀ e ad n cap, P.underlying t = some (.slice e) → a.eval x = .slice ad n cap → (Builtin.len_ c.argTypes o.type #[a.eval x]).run P w = .ok (goInt n) w := by
      intro e ad n cap hu hx
      simp [Builtin.len_, ht', hx, run_underlying hu]
    split at hv
    · rename_i e1 e2 e3
      rw [e3] at hr
      exact run 0 (lenS _ _ 0 _ e2 (pvN hr)) hv
    · rename_i e1 e2 e3
      rw [e3] at hr
      generalize hxx : a.eval x = vx at hr
      cases hr
      exact run 0 (lenS _ _ 0 _ e2 hxx) hv
    · rename_i e1 l e2 e3
      rw [e3] at hr
      generalize hxx : a.eval x = vx at hr
      cases hr with
      | pv _ _ hp =>
        generalize hlx : PV.sl l = pl at hp
        cases hp with
        | sl b off sz cap l' val g1 g2 g3 g4 g5 g6 =>
          obtain rfl : l = l' := by cases hlx; rfl
          exact run _ (lenS _ _ _ _ e2 hxx) hv
        | e0 a' c' => cases hlx; exact run 0 (lenS _ _ 0 _ e2 hxx) hv
        | _ => cases hlx
    · rename_i e1 k n e2 e3
      rw [e3] at hr
      generalize hxx : a.eval x = vx at hr
      cases hr with
      | buf _ _ _ g1 g2 g3 =>
        obtain ⟨ad, cap, rfl, _⟩ := g1
        exact run n (lenS _ _ _ _ e2 hxx) hv
    · rename_i e1 k n e2 e3
      rw [e3] at hr
      generalize hxx : a.eval x = vx at hr
      cases hr with
      | vbuf _ _ _ g1 g2 =>
        obtain ⟨ad, cap, rfl⟩ := g1
        exact run n (lenS _ _ _ _ e2 hxx) hv
    · rename_i s e2 e3
      rw [e3] at hr
      refine run _ ?_ hv
      simp [Builtin.len_, ht', pvS hr, run_underlying e2]
    · exact hv.elim
  · exact hv.elim

theorem res_max {c : Call} {d1 d2 : DV} (ho : o.op = .call c) (hc : c.callee = .builtin .max) (ha : c.args.toList.map ρ = [d1, d2]) (h : HR M w0 μ L w) (hρ : Rho M μ L w ρ a)
    (hv : vcBuiltin P .max c.argTypes.toList [d1, d2] L K) : OpRes P M w0 μ L w K o a := by
  obtain ⟨x, y, hx, h1, h2⟩ := args_two ha
  have hr := hρ.rel x
  have hs := hρ.rel y
  rw [h1] at hr
  rw [h2] at hs
  cases d1 <;> cases d2 <;> try (simp [vcBuiltin] at hv; done)
  rename_i p q
  cases p <;> cases q <;> try (simp [vcBuiltin] at hv; done)
  rename_i k a' k' b'
  simp only [vcBuiltin] at hv
  cases hk : decide (k = k') with
  | false => simp [hk] at hv
  | true =>
    simp only [hk] at hv
    refine .val (v := .int k (max a' b')) (w' := w) ?_ (Out.id h (relI _ _ _) rfl hv)
    rw [run_bi ho hc, hx]
    simp [builtin, Builtin.max_, pvI hr, pvI hs, Builtin.max2]
    omega
theorem res_min {c : Call} {d1 d2 : DV} (ho : o.op = .call c) (hc : c.callee = .builtin .min) (ha : c.args.toList.map ρ = [d1, d2]) (h : HR M w0 μ L w) (hρ : Rho M μ L w ρ a)
    (hv : vcBuiltin P .min c.argTypes.toList [d1, d2] L K) : OpRes P M w0 μ L w K o a := by
  obtain ⟨x, y, hx, h1, h2⟩ := args_two ha
  have hr := hρ.rel x
  have hs := hρ.rel y
  rw [h1] at hr
  rw [h2] at hs
  cases d1 <;> cases d2 <;> try (simp [vcBuiltin] at hv; done)
  rename_i p q
  cases p <;> cases q <;> try (simp [vcBuiltin] at hv; done)
  rename_i k a' k' b'
  simp only [vcBuiltin] at hv
  cases hk : decide (k = k') with
  | false => simp [hk] at hv
  | true =>
    simp only [hk] at hv
    refine .val (v := .int k (min a' b')) (w' := w) ?_ (Out.id h (relI _ _ _) rfl hv)
    rw [run_bi ho hc, hx]
    simp [builtin, Builtin.min_, pvI hr, pvI hs, Builtin.min2]
    omega
end
end Go.Dv
namespace Go.Dv
open Go.RowKit (Below)
section
variable {P : Program} {M : Nat → Prop} {w0 : W0} {μ : Nat → Loc} {L : DH} {w : World} {a : Act} {ρ : Operand → DV} {K : DV → DH → Prop} {o : Oper} {dr : Bool}

theorem zero_of {t : TypeId} {z : DV} (h : zeroOf P t = some z) : ∃ i v, P.info? t = some i ∧ i.zero = some v ∧ z = dvOf v := by
  unfold zeroOf at h
  cases hi : P.info? t with
  | none => simp [hi] at h
  | some i =>
    cases hv : i.zero with
    | none => simp [hi, hv] at h
    | some v => simp [hi, hv] at h; exact ⟨i, v, rfl, hv, h.symm⟩

theorem mapM_run {α β : Type} (f : α → Sem β) (g : α → β) : ∀ (l : List α), (∀ x, x ∈ l → (f x).run P w = .ok (g x) w) → (l.mapM f).run P w = .ok (l.map g) w
  | [], _ => by simp
  | x :: r, h => by
    have ih := mapM_run f g r fun y hy => h y (by simp [hy])
    simp [h x (by simp), ih]

theorem fill_step (place : Nat → Option (Nat × Nat)) (cells : Array Value) (i : Nat) (v : Value) (rest : List (Nat × Value)) (off : Nat) (hp : place i = some (off, v.cells.size)) (hf : off + v.cells.size ≤ cells.size) :
    Instr.fill place cells ((i, v) :: rest) = Instr.fill place (splice cells.toList off v.cells.toList).toArray rest := by
  have h1 : v.cells.zipIdx.foldl (fun cs (x : Value × Nat) => cs.setIfInBounds (off + x.2) x.1) cells = (splice cells.toList off v.cells.toList).toArray := by
    rw [← Array.foldl_toList, Array.toList_zipIdx]
    obtain ⟨g1, g2⟩ := Great.foldl_set off v.cells.toList 0 cells
    apply Array.ext'
    apply List.ext_getElem?
    intro k
    have g3 := g2 k
    rw [← Array.getElem?_toList] at g3
    rw [g3]
    rw [splice_get (by simpa using hf)]
    simp only [Nat.add_zero, Array.length_toList]
    by_cases c1 : k < off
    · rw [if_neg (by omega), if_pos c1]; simp
    · rw [if_neg c1]
      by_cases c2 : k < off + v.cells.size
      · rw [if_pos (by omega), if_pos c2]
      · rw [if_neg (by omega), if_neg c2]; simp
  conv => lhs; unfold Instr.fill
  simp only [hp]
  rw [if_neg (by simp; omega), h1]

theorem fill_rel {T : Nat → Prop} {s : TypeId} {fs : Array Field} (hu : P.underlying s = some (.struct fs)) (places : Array (Nat × Nat)) (hpl : ∀ (i : Nat) f, fs[i]? = some f → places[i]? = some (f.offset, szOf P f.type))
    (hρ : ∀ x, RelV T w μ L (ρ x) (a.eval x)) (hρu : ∀ x, (ρ x).under L.next = true) :
    ∀ (parts : List (Nat × Operand)) (z cs : List DV) (zc : Array Value), z.length = zc.size → (∀ (i : Nat) d v, z[i]? = some d → zc[i]? = some v → RelV T w μ L d v) → DV.unders L.next z = true →
      dfill P s z (parts.map fun q => (q.1, ρ q.2)) = some cs →
      ∃ r, Instr.fill (places[·]?) zc (parts.map fun q => (q.1, a.eval q.2)) = some r ∧ cs.length = r.size ∧ (∀ (i : Nat) d v, cs[i]? = some d → r[i]? = some v → RelV T w μ L d v) ∧ DV.unders L.next cs = true
  | [], z, cs, zc, h1, h2, h3, h => by
    simp [dfill] at h; subst h
    exact ⟨zc, rfl, h1, h2, h3⟩
  | (i, x) :: r, z, cs, zc, h1, h2, h3, h => by
    simp only [List.map_cons, dfill] at h
    cases hf : fieldOf P s i with
    | none => simp [hf] at h
    | some f =>
      simp only [hf] at h
      obtain ⟨fs', hu', hfs⟩ := run_field hf
      rw [hu] at hu'; obtain rfl : fs = fs' := by cases hu'; rfl
      generalize hc : (Nat.beq (ρ x).cells.length (szOf P f.type) && Nat.ble (f.offset + (ρ x).cells.length) z.length && (ρ x).cells.all DV.one) = c at h
      cases c with
      | false => simp at h
      | true =>
        simp only [Bool.and_eq_true] at hc
        obtain ⟨⟨e1, e2⟩, e3⟩ := hc
        have e1' := beq_of e1
        have e2' : f.offset + (ρ x).cells.length ≤ z.length := by simpa using e2
        obtain ⟨c1, c2, c3⟩ := cells_rel (hρ x) e3
        have hcu := cells_under (hρu x)
        have hfit : f.offset + (a.eval x).cells.size ≤ zc.size := by omega
        have hstep := fill_step (places[·]?) zc i (a.eval x) (r.map fun q => (q.1, a.eval q.2)) f.offset (by rw [hpl i f hfs, ← c1, e1']) hfit
        obtain ⟨r', g1, g2, g3, g4⟩ := fill_rel hu places hpl hρ hρu r (splice z f.offset (ρ x).cells) cs (splice zc.toList f.offset (a.eval x).cells.toList).toArray
          (by simp only [List.size_toArray]; rw [splice_len e2', splice_len (by simpa using hfit)]; simpa using h1)
          (fun j d v hd hv => by
            simp only [List.getElem?_toArray] at hv
            rw [splice_get (by simpa using hfit)] at hv
            rw [splice_get e2'] at hd
            have hl2 : (a.eval x).cells.toList.length = (ρ x).cells.length := by simp [c1]
            rw [hl2] at hv
            split at hd
            · rename_i g; rw [if_pos g] at hv; exact h2 j d v hd (by simpa using hv)
            · rename_i g; rw [if_neg g] at hv
              split at hd
              · rename_i g'; rw [if_pos g'] at hv; exact c2 _ d v hd (by simpa using hv)
              · rename_i g'; rw [if_neg g'] at hv; exact h2 j d v hd (by simpa using hv))
          (by
            rw [unders_mem] at *
            intro d hd
            simp only [splice, List.mem_append] at hd
            rcases hd with (hd | hd) | hd
            · exact h3 d (List.mem_of_mem_take hd)
            · exact hcu d hd
            · exact h3 d (List.mem_of_mem_drop hd)) h
        exact ⟨r', by rw [List.map_cons, hstep]; exact g1, g2, g3, g4⟩

theorem res_build {t : TypeId} {parts : Array (Nat × Operand)} (ho : o.op = .build t parts) (h : HR M w0 μ L w) (hρ : Rho M μ L w ρ a) (hv : vcOp P M w0 dr ρ L o K) : OpRes P M w0 μ L w K o a := by
  simp only [vcOp, ho] at hv
  split at hv
  · rename_i z hz hs
    obtain ⟨i, v, hi, hv0, hzv⟩ := zero_of hz
    unfold structOk at hs
    cases hu : P.underlying t with
    | none => simp [hu] at hs
    | some d =>
      cases d <;> simp only [hu] at hs <;> try (cases hs; done)
      rename_i fs
      have hinf : ∀ f, f ∈ fs.toList → ((do pure (f.offset, ← sizeOf f.type) : Sem (Nat × Nat))).run P w = .ok (f.offset, szOf P f.type) w := by
        intro f hf
        obtain ⟨j, hj⟩ := Option.isSome_iff_exists.1 (List.all_eq_true.1 hs f hf)
        simp [run_szOf hj]
      have hm := mapM_run (P := P) (w := w) (fun f : Field => (do pure (f.offset, ← sizeOf f.type) : Sem (Nat × Nat))) (fun f => (f.offset, szOf P f.type)) fs.toList hinf
      have hrz : RelV (Tot M μ L) w μ L (.agg z) v := hzv ▸ relV_dvOf v
      have huz : DV.unders L.next z = true := by have := under_dvOf L.next v; rw [← hzv] at this; simpa [DV.under] using this
      cases hf : dfill P t z (parts.toList.map fun q => (q.1, ρ q.2)) with
      | none => simp [hf] at hv
      | some cs =>
        simp only [hf] at hv
        cases hrz with
        | agg _ vs h1 h2 =>
          obtain ⟨r, g1, g2, g3, g4⟩ := fill_rel (P := P) hu (fs.map fun f => (f.offset, szOf P f.type)) (fun i f hf => by simp [hf]) hρ.rel hρ.und parts.toList z cs ⟨vs⟩ (by simpa using h1) (fun i d v hd hv => h2 i d v hd (by simpa using hv)) huz hf
          refine .val (v := .agg r) (w' := w) ?_ (Out.id h (.agg cs r.toList (by simpa using g2) fun i d v hd hv => g3 i d v hd (by simpa using hv)) (by simpa [DV.under] using g4) hv)
          have hpl : (parts.map fun (x : Nat × Operand) => (x.1, a.eval x.2)).toList = parts.toList.map fun q => (q.1, a.eval q.2) := by simp
          have hmm : (fs.mapM fun f => (do pure (f.offset, ← sizeOf f.type) : Sem (Nat × Nat))).run P w = .ok (fs.map fun f => (f.offset, szOf P f.type)) w := by
            rw [Array.mapM_eq_mapM_toList, Sem.run_map, hm, Result.andThen_ok]
            congr 1
            apply Array.ext'
            simp
          rw [show execOp a.eval o = (do pure (Next.value (← Instr.build t (parts.map fun (x : Nat × Operand) => (x.1, a.eval x.2)))) : Sem Next) from by simp only [execOp, ho]]
          refine run_val ?_
          have hzr : (zeroValue t).run P w = .ok (.agg ⟨vs⟩) w := by simp [zeroValue, typeInfo, hi, hv0]
          simp only [Instr.build, Sem.run_bind, hzr, Result.andThen_ok, run_underlying hu, hmm, Value.cells]
          rw [hpl]
          simp only [g1, Sem.run_pure]
  · exact hv.elim

/-- Elements that lie side by side. -/
def RowAt (T : Nat → Prop) (w : World) (b off sz : Nat) (es : List PV) (val : Nat → Nat → Value) : Prop :=
  ∀ (i : Nat) p (j : Nat) q, es[i]? = some p → p.cells[j]? = some q → w.cell? ⟨b, off + i * sz + j, none⟩ = some (val i j) ∧ RelP T w q (val i j)

theorem cellsAll_iff {sz : Nat} {xs : List PV} (h : cellsAll sz xs = true) : ∀ p, p ∈ xs → p.cells.length = sz := by
  intro p hp
  have := List.all_eq_true.1 h p hp
  simp only [Bool.and_eq_true] at this
  exact beq_of this.1
theorem cellsAll_one {sz : Nat} {xs : List PV} (h : cellsAll sz xs = true) : ∀ p, p ∈ xs → ∀ q, q ∈ p.cells → q.one = true := by
  intro p hp
  have := List.all_eq_true.1 h p hp
  simp only [Bool.and_eq_true] at this
  exact List.all_eq_true.1 this.2

def rowVals (sz n : Nat) (val : Nat → Nat → Value) : List Value := (List.range (n * sz)).map fun m => val (m / sz) (m % sz)
theorem rowVals_len (sz n : Nat) (val : Nat → Nat → Value) : (rowVals sz n val).length = n * sz := by simp [rowVals]
theorem idx_lt {i n j sz : Nat} (hi : i < n) (hj : j < sz) : i * sz + j < n * sz := by
  have := Nat.mul_le_mul_right sz (Nat.succ_le_of_lt hi)
  rw [Nat.succ_mul] at this
  omega
theorem rowVals_get {sz n i j : Nat} (val : Nat → Nat → Value) (hi : i < n) (hj : j < sz) : (rowVals sz n val)[i * sz + j]? = some (val i j) := by
  unfold rowVals
  have h := idx_lt hi hj
  rw [List.getElem?_map, List.getElem?_range h]
  have hs : 0 < sz := by omega
  have h1 : (i * sz + j) / sz = i := by rw [Nat.mul_comm, Nat.mul_add_div hs, Nat.div_eq_of_lt hj]; omega
  have h2 : (i * sz + j) % sz = j := by rw [Nat.mul_comm, Nat.mul_add_mod, Nat.mod_eq_of_lt hj]
  simp [h1, h2]
theorem row_load {T : Nat → Prop} {b off sz : Nat} {es : List PV} {val : Nat → Nat → Value} (h : RowAt T w b off sz es val) (hc : ∀ p, p ∈ es → p.cells.length = sz) (w' : World) (hw : w'.heap = w.heap) :
    (loadCells ⟨b, off, none⟩ (es.length * sz)).run P w' = .ok (rowVals sz es.length val).toArray w' := by
  refine run_loadCells w' _ _ (fun m => val (m / sz) (m % sz)) fun m hm => ?_
  have hs : 0 < sz := by
    rcases Nat.eq_zero_or_pos sz with e | e
    · subst e; simp at hm
    · exact e
  have hi : m / sz < es.length := (Nat.div_lt_iff_lt_mul hs).2 hm
  have hj : m % sz < sz := Nat.mod_lt _ hs
  have hp : es[m / sz]? = some es[m / sz] := List.getElem?_eq_getElem hi
  have hl := hc _ (List.getElem_mem hi)
  have hq : (es[m / sz]).cells[m % sz]? = some ((es[m / sz]).cells[m % sz]'(by omega)) := List.getElem?_eq_getElem (by omega)
  have := (h _ _ _ _ hp hq).1
  rw [add_none]
  have hm' : m / sz * sz + m % sz = m := Nat.div_add_mod' m sz
  rw [Nat.add_assoc, hm'] at this
  rw [World.cell?_of_block (w := w) (by rw [hw])]
  exact this

/-- What is appended. -/
theorem src_rel {x : DV} {v : Value} {Kx : List PV → Prop} {sz : Nat} (h : HR M w0 μ L w) (hr : RelV (Tot M μ L) w μ L x v) (hx : srcOf x L Kx) (hsz : ∀ xs, Kx xs → cellsAll sz xs = true) :
    ∃ xs val, Kx xs ∧ (∀ w' : World, (Builtin.lenOf v).run P w' = .ok xs.length w') ∧ (∀ w' : World, w'.heap = w.heap → (Builtin.firstCells sz xs.length v).run P w' = .ok (rowVals sz xs.length val).toArray w') ∧
      ∀ (i : Nat) p (j : Nat) q, xs[i]? = some p → p.cells[j]? = some q → RelP (Tot M μ L) w q (val i j) := by
  have emp : ∀ a c, v = .slice a 0 c → Kx [] → ∃ xs val, Kx xs ∧ (∀ w' : World, (Builtin.lenOf v).run P w' = .ok xs.length w') ∧ (∀ w' : World, w'.heap = w.heap → (Builtin.firstCells sz xs.length v).run P w' = .ok (rowVals sz xs.length val).toArray w') ∧
      ∀ (i : Nat) p (j : Nat) q, xs[i]? = some p → p.cells[j]? = some q → RelP (Tot M μ L) w q (val i j) := by
    intro a c hv hk
    subst hv
    refine ⟨[], fun _ _ => undef, hk, fun w' => by simp [Builtin.lenOf], fun w' _ => ?_, fun i p j q hp _ => by simp at hp⟩
    cases a with
    | none => simp [Builtin.firstCells, rowVals]
    | some a => simp [Builtin.firstCells, rowVals, loadCells, loadCellsFrom]
  have row : ∀ b off cap (es : List PV) val, v = .slice (some ⟨b, off, none⟩) es.length cap → Kx es → RowAt (Tot M μ L) w b off sz es val → ∃ xs val, Kx xs ∧ (∀ w' : World, (Builtin.lenOf v).run P w' = .ok xs.length w') ∧ (∀ w' : World, w'.heap = w.heap → (Builtin.firstCells sz xs.length v).run P w' = .ok (rowVals sz xs.length val).toArray w') ∧
      ∀ (i : Nat) p (j : Nat) q, xs[i]? = some p → p.cells[j]? = some q → RelP (Tot M μ L) w q (val i j) := by
    intro b off cap es val hv hk hrow
    subst hv
    refine ⟨es, val, hk, fun w' => by simp [Builtin.lenOf], fun w' hw => ?_, fun i p j q hp hq => (hrow i p j q hp hq).2⟩
    simp only [Builtin.firstCells]
    exact row_load hrow (cellsAll_iff (hsz es hk)) w' hw
  have slc : ∀ l, RelP (Tot M μ L) w (.sl l) v → Kx l → ∃ xs val, Kx xs ∧ (∀ w' : World, (Builtin.lenOf v).run P w' = .ok xs.length w') ∧ (∀ w' : World, w'.heap = w.heap → (Builtin.firstCells sz xs.length v).run P w' = .ok (rowVals sz xs.length val).toArray w') ∧
      ∀ (i : Nat) p (j : Nat) q, xs[i]? = some p → p.cells[j]? = some q → RelP (Tot M μ L) w q (val i j) := by
    intro l hp hk
    generalize hlx : PV.sl l = pl at hp
    cases hp with
    | sl b off sz' cap l' val g1 g2 g3 g4 g5 g6 =>
      obtain rfl : l = l' := by cases hlx; rfl
      refine row b off cap l val rfl hk fun i p j q hp hq => ⟨?_, g6 i p j q hp hq⟩
      have e : sz' = sz := by rw [← g4 p (List.mem_of_getElem? hp), cellsAll_iff (hsz l hk) p (List.mem_of_getElem? hp)]
      subst e
      exact g5 i p j q hp hq
    | e0 a' c' => cases hlx; exact emp _ _ rfl hk
    | _ => cases hlx
  cases x with
  | pv p =>
    cases p with
    | nil => exact emp _ _ (pvN hr) hx
    | sl l =>
      cases hr with
      | pv _ _ hp => exact slc _ hp hx
    | _ => exact hx.elim
  | e0 => cases hr; exact emp _ _ rfl hx
  | raw u =>
    cases hr
    unfold srcOf at hx
    split at hx
    all_goals first | exact hx.elim | (rename_i heq; cases heq; done) | skip
    rename_i heq
    cases heq
    exact emp _ _ rfl hx
  | buf k n =>
    simp only [srcOf] at hx
    cases hk : L.get k with
    | none => simp [hk] at hx
    | some ob =>
      cases ob <;> simp only [hk] at hx
      case arr sz' es =>
        have hbuf : bufVal (μ k) n v := by
          cases hr with
          | buf _ _ _ g1 g2 g3 => exact (g2 sz' es hk).2 hx.1
        rcases hbuf with ⟨hc, h0, ad, he⟩ | ⟨hc, he⟩
        · have : es = [] := by rw [h0] at hx; exact List.length_eq_zero_iff.1 hx.1.symm
          subst this; exact emp _ _ he hx.2
        · rw [hx.1] at he
          rcases h.obj k _ hk with ⟨g0, g1⟩ | ⟨vs, ty, g0, g1, g2, g3, g4, g5⟩
          · exact absurd g0 hc
          · refine row _ 0 _ es (fun i j => (vs[i * sz + j]?).getD undef) he hx.2 fun i p j q hp hq => ?_
            have e : sz' = sz := by rw [← g4 p (List.mem_of_getElem? hp), cellsAll_iff (hsz es hx.2) p (List.mem_of_getElem? hp)]
            subst e
            obtain ⟨u, hu, hru⟩ := g5 i p j q hp hq
            simp [World.cell?, g1, hu, hru]
      case fz es => exact slc es (fz_relP h hk hr hx.1) hx.2
  | _ => exact hx.elim

theorem run_append_more (t t2 ty e : TypeId) (i : TypeInfo) (z : Value) (ht : P.underlying t = some (.slice e)) (e2 : TypeId) (ht2 : P.underlying t2 = some (.slice e2)) (hi : P.info? e = some i) (hz : i.zero = some z)
    (base : Option Addr) (sLen sCap n : Nat) (x : Value) (olds news : Array Value) (hlen : (Builtin.lenOf x).run P w = .ok n w)
    (hfo : (Builtin.firstCells i.size sLen (.slice base sLen sCap)).run P w.drew = .ok olds w.drew) (hfn : (Builtin.firstCells i.size n x).run P w.drew = .ok news w.drew)
    (hg : sCap < sLen + n) (h63 : ((sLen + n : Nat) : Int) ≤ 9223372036854775807) (hfit : Builtin.nextslicecap (sLen + n) sCap * i.bytes ≤ 281474976710656) :
    (Builtin.append_ #[t, t2] ty #[.slice base sLen sCap, x]).run P w =
      .ok (.slice (some ⟨w.heap.size, 0, none⟩) (sLen + n) (grownCap w (sLen + n) sCap e))
        (w.drew.alloc (.cells (olds ++ news ++ Builtin.zeroCells z.cells (grownCap w (sLen + n) sCap e - (sLen + n))) e)) := by
  have hn : ¬ (sLen + n ≤ sCap) := by omega
  have h63' : ¬ (9223372036854775807 < ((sLen : Int) + (n : Int))) := by omega
  have h48' : ¬ (281474976710656 < Builtin.nextslicecap (sLen + n) sCap * i.bytes) := by omega
  simp [Builtin.append_, run_underlying ht, run_underlying ht2, sizeOf, typeInfo, zeroValue, hi, hz, hlen, hn, h63', h48', Question.forced, hfo, hfn, newRow, grownCap]
theorem run_append_here (t t2 ty e : TypeId) (i : TypeInfo) (ht : P.underlying t = some (.slice e)) (e2 : TypeId) (ht2 : P.underlying t2 = some (.slice e2)) (hi : P.info? e = some i)
    (base : Option Addr) (sLen sCap n : Nat) (x : Value) (news : Array Value) (hlen : (Builtin.lenOf x).run P w = .ok n w) (hfn : (Builtin.firstCells i.size n x).run P w = .ok news w)
    (hg : sLen + n ≤ sCap) (w' : World) (hst : (match base with | some b => storeCells (b.add (sLen * i.size)) news.toList | none => (pure () : Sem Unit)).run P w = .ok () w') :
    (Builtin.append_ #[t, t2] ty #[.slice base sLen sCap, x]).run P w = .ok (.slice base (sLen + n) sCap) w' := by
  cases base with
  | none =>
    simp at hst; subst hst
    simp [Builtin.append_, run_underlying ht, run_underlying ht2, sizeOf, typeInfo, hi, hlen, hg, hfn]
  | some b =>
    simp only at hst
    simp [Builtin.append_, run_underlying ht, run_underlying ht2, sizeOf, typeInfo, hi, hlen, hg, hfn, hst]
end
end Go.Dv
namespace Go.Dv
open Go.RowKit (Below)
section
variable {P : Program} {M : Nat → Prop} {w0 : W0} {μ : Nat → Loc} {L : DH} {w : World} {a : Act} {ρ : Operand → DV} {K : DV → DH → Prop} {o : Oper} {dr : Bool}

/-- New blocks that nobody knows leave everything as it was. -/
theorem HR.more (h : HR M w0 μ L w) {w' : World} (hb : Below w.heap.size w w') : Stp L μ w L μ w' ∧ HR M w0 μ L w' := by
  have hs : Stp L μ w L μ w' := ⟨Evo.refl L μ, hb.os, hb.tape, hb.output, hb.size, fun b hl _ => hb.block b hl, fun k o hk hl => .inl ⟨(h.keys k o hk).1, ⟨o, hk, hl⟩, rfl⟩, Nat.le_refl _, rfl, rfl⟩
  refine ⟨hs, h.ext.trans (hb.mono h.ext.size), fun b hM => Nat.lt_of_lt_of_le (h.mlt b hM) hb.size, h.keys, fun k o hk hl => ?_, h.inj, fun k o hk => ?_, h.base, h.lob, h.glb⟩
  · obtain ⟨h1, h2, h3⟩ := h.live k o hk hl
    exact ⟨Nat.lt_of_lt_of_le h1 hb.size, h2, h3⟩
  · exact (h.obj k o hk).stp hs rfl (fun hl => hb.block _ (h.live k o hk hl).1) (h.keys k o hk).2

theorem relP_cells {T : Nat → Prop} {p : PV} {v : Value} (h : RelP T w p v) : p.cells.length = v.cells.size ∧ ∀ (j : Nat) q u, p.cells[j]? = some q → v.cells[j]? = some u → RelP T w q u := by
  have one : ∀ (p : PV) (v : Value), RelP T w p v → p.cells = [p] → v.cells = #[v] → p.cells.length = v.cells.size ∧ ∀ (j : Nat) q u, p.cells[j]? = some q → v.cells[j]? = some u → RelP T w q u := by
    intro p v h h1 h2
    rw [h1, h2]
    refine ⟨rfl, fun j q u hq hu => ?_⟩
    cases j with
    | zero => simp at hq hu; subst hq; subst hu; exact h
    | succ j => simp at hq
  cases h with
  | agg l vs h1 h2 => exact ⟨by simpa [PV.cells, Value.cells] using h1, fun j q u hq hu => h2 j q u hq (by simpa [Value.cells] using hu)⟩
  | int k n => exact one _ _ (.int k n) rfl rfl
  | bool b => exact one _ _ (.bool b) rfl rfl
  | str s => exact one _ _ (.str s) rfl rfl
  | nil => exact one _ _ .nil rfl rfl
  | e0 a c => exact one _ _ (.e0 a c) rfl rfl
  | sl b off sz cap l val g1 g2 g3 g4 g5 g6 => exact one _ _ (.sl b off sz cap l val g1 g2 g3 g4 g5 g6) rfl rfl
  | tup l vs h1 h2 => exact one _ _ (.tup l vs h1 h2) rfl rfl

theorem upto_zip : ∀ (n s : Nat) (l : List (Nat × Operand)), l.map (·.1) = upto n s → (l.map fun q => (q.1, a.eval q.2)) = ((l.map fun q => a.eval q.2).zipIdx s).map fun x => (x.2, x.1)
  | 0, s, l, h => by
    cases l with
    | nil => rfl
    | cons x r => simp [upto] at h
  | n + 1, s, l, h => by
    cases l with
    | nil => simp [upto] at h
    | cons x r =>
      simp only [upto, List.map_cons, List.cons.injEq] at h
      have ih := upto_zip n (s + 1) r h.2
      simp only [List.map_cons, List.zipIdx_cons, ih, h.1]
theorem upto_len : ∀ (n s : Nat), (upto n s).length = n
  | 0, _ => rfl
  | n + 1, s => by simp [upto, upto_len n (s + 1)]

/-- A slice literal. -/
theorem lit_rel {t e : TypeId} {n : Nat} {parts : Array (Nat × Operand)} {ps : List PV} (ho : o.op = .buildSlice t n parts) (h : HR M w0 μ L w) (he : elemT P t = some e)
    (hidx : parts.toList.map (·.1) = upto n 0) (hsm : n * szOf P e ≤ 16777216) (hz : (zeroOf P e).isSome = true) (hs0 : szOf P e ≠ 0)
    (hpl : ps.length = (parts.toList.map fun q => a.eval q.2).length) (hp : ∀ (i : Nat) p v, ps[i]? = some p → (parts.toList.map fun q => a.eval q.2)[i]? = some v → RelP (Tot M μ L) w p v)
    (hc : cellsAll (szOf P e) ps = true) : ∃ v w', (execOp a.eval o).run P w = .ok (.value v) w' ∧ Below w.heap.size w w' ∧ RelP (Tot M μ L) w' (.sl ps) v ∧ (n = 0 → ∃ ad, v = .slice ad 0 0) := by
  have hu := run_elem he
  obtain ⟨z, hz⟩ := Option.isSome_iff_exists.1 hz
  obtain ⟨i, v0, hi, hv0, _⟩ := zero_of hz
  have hsz : i.size = szOf P e := by simp [szOf, Program.cellsOf, hi]
  have hn : (parts.toList.map fun q => a.eval q.2).length = n := by
    have := congrArg List.length hidx
    rw [upto_len] at this
    simpa using this
  have hcells : ∀ v, v ∈ (parts.toList.map fun q => a.eval q.2) → v.cells.size = szOf P e := by
    intro v hv
    obtain ⟨j, hj⟩ := List.mem_iff_getElem?.1 hv
    have hlt := getE_lt hj
    have hpj : ps[j]? = some (ps[j]'(by omega)) := List.getElem?_eq_getElem (by omega)
    rw [← (relP_cells (hp j _ v hpj hj)).1]
    exact cellsAll_iff hc _ (List.mem_of_getElem? hpj)
  have hpm : (parts.map fun (x : Nat × Operand) => (x.1, a.eval x.2)).toList = (((parts.toList.map fun q => a.eval q.2).zipIdx 0).map fun x => (x.2, x.1)) := by
    rw [Array.toList_map]
    exact upto_zip n 0 parts.toList hidx
  by_cases hn0 : n = 0
  · subst hn0
    have hnil : parts.toList.map (fun q => a.eval q.2) = [] := List.length_eq_zero_iff.1 hn
    refine ⟨.slice (some ⟨w.heap.size, 0, none⟩) 0 0, w.alloc (.cells #[] e), ?_, (Below.refl _ _).alloc (Nat.le_refl _) _, ?_, fun _ => ⟨_, rfl⟩⟩
    · have hpe : (parts.map fun (x : Nat × Operand) => (x.1, a.eval x.2)).toList = [] := by rw [hpm, hnil]; rfl
      have hpe' : parts.map (fun (x : Nat × Operand) => (x.1, a.eval x.2)) = #[] := by apply Array.ext'; rw [hpe]
      simp [execOp, ho, Instr.buildSlice, run_underlying hu, run_szOf hi, Instr.fill, newRow, hpe', Array.range_zero']
    · have : ps = [] := List.length_eq_zero_iff.1 (by rw [hpl, hn])
      subst this
      exact .e0 _ _
  · obtain ⟨r, hf, hrs, hr⟩ := Great.fill_dense (s := szOf P e) (by omega) (parts.toList.map fun q => a.eval q.2) 0 ((Array.range (n * i.size)).map (v0.cells[· % v0.cells.size]!)) hcells (by simp [hn, hsz])
    have hrun := run_buildSlice (P := P) w t e n (parts.map fun (x : Nat × Operand) => (x.1, a.eval x.2)) r i v0 hu hi hv0 (by rw [hsz]; omega) (by rw [hsz]; intro e; rcases Nat.mul_eq_zero.1 e with e | e <;> omega) (by rw [hsz, hpm]; rw [hsz] at hf; exact hf)
    have hb : Below w.heap.size w (w.alloc (.cells r e)) := (Below.refl _ _).alloc (Nat.le_refl _) _
    refine ⟨.slice (some ⟨w.heap.size, 0, none⟩) n n, w.alloc (.cells r e), ?_, hb, ?_, fun e => absurd e hn0⟩
    · rw [show execOp a.eval o = (do pure (Next.value (← Instr.buildSlice t n (parts.map fun (x : Nat × Operand) => (x.1, a.eval x.2)))) : Sem Next) from by simp only [execOp, ho]]
      exact run_val hrun
    · have hln : ps.length = n := by rw [hpl, hn]
      rw [← hln]
      refine .sl w.heap.size 0 (szOf P e) _ ps (fun i j => (r[i * szOf P e + j]?).getD undef) ?_ (by simp) (Nat.le_refl _) (cellsAll_iff hc) ?_ ?_
      · rintro (hM | ⟨k, ob, h1, h2, h3⟩)
        · exact Nat.lt_irrefl _ (h.mlt _ hM)
        · have := (h.live k ob h1 h2).1; omega
      all_goals
        intro i' p j q hpi hqj
        have hil := getE_lt hpi
        have hjl : j < szOf P e := by rw [← cellsAll_iff hc p (List.mem_of_getElem? hpi)]; exact getE_lt hqj
        have hlt := idx_lt (n := n) (by omega : i' < n) hjl
        have hk := hr (i' * szOf P e + j)
        have hs : 0 < szOf P e := by omega
        have e1 : (i' * szOf P e + j) / szOf P e = i' := by rw [Nat.mul_comm, Nat.mul_add_div hs, Nat.div_eq_of_lt hjl]; omega
        have e2 : (i' * szOf P e + j) % szOf P e = j := by rw [Nat.mul_comm, Nat.mul_add_mod, Nat.mod_eq_of_lt hjl]
        rw [if_pos (by rw [hn, Nat.zero_add, Nat.zero_mul]; exact ⟨Nat.zero_le _, hlt⟩), e1, e2] at hk
        simp only [Nat.sub_zero] at hk
        have hvi : (parts.toList.map fun q => a.eval q.2)[i']? = some ((parts.toList.map fun q => a.eval q.2)[i']'(by omega)) := List.getElem?_eq_getElem (by omega)
        rw [hvi] at hk
        simp only [Option.bind_some] at hk
        have hrel := hp i' p _ hpi hvi
        obtain ⟨g1, g2⟩ := relP_cells hrel
        have hvj : ((parts.toList.map fun q => a.eval q.2)[i']'(by omega)).cells[j]? = some (((parts.toList.map fun q => a.eval q.2)[i']'(by omega)).cells[j]'(by have := getE_lt hqj; omega)) := Array.getElem?_eq_getElem (by have := getE_lt hqj; omega)
        rw [hvj] at hk
      · rw [World.cell?_alloc_new]
        simp [hk]
      · rw [hk]
        exact (g2 j q _ hqj hvj).mono (fun _ hb => .inl hb) hb.size fun b hlt _ => hb.block b hlt

theorem parts_rel (hρ : Rho M μ L w ρ a) (parts : Array (Nat × Operand)) : (parts.toList.map fun q => ρ q.2).length = (parts.toList.map fun q => a.eval q.2).length ∧
    (∀ (i : Nat) d v, (parts.toList.map fun q => ρ q.2)[i]? = some d → (parts.toList.map fun q => a.eval q.2)[i]? = some v → RelV (Tot M μ L) w μ L d v) ∧ DV.unders L.next (parts.toList.map fun q => ρ q.2) = true := by
  refine ⟨by simp, fun i d v hd hv => ?_, ?_⟩
  · simp only [List.getElem?_map] at hd hv
    cases hx : parts.toList[i]? with
    | none => simp [hx] at hd
    | some x => simp [hx] at hd hv; subst hd; subst hv; exact hρ.rel x.2
  · rw [unders_mem]
    intro d hd
    obtain ⟨x, _, rfl⟩ := List.mem_map.1 hd
    exact hρ.und x.2

theorem cells_oneV {v : Value} (h : v.oneCell' = true) : v.cells = #[v] := by
  cases v <;> first | rfl | (simp [Value.oneCell'] at h)
/-- A slice literal of one cell that is not pure: its block. -/
theorem lit_own {t e : TypeId} {n : Nat} {parts : Array (Nat × Operand)} (ho : o.op = .buildSlice t n parts) (h : HR M w0 μ L w) (hρ : Rho M μ L w ρ a) (he : elemT P t = some e)
    (hidx : parts.toList.map (·.1) = upto n 0) (hz : (zeroOf P e).isSome = true) (hs : szOf P e = 1) (hn : n = 1) (hone : (parts.toList.map fun q => ρ q.2).all DV.one = true)
    (hK : K (.vbuf L.next 1) (L.push (.var (parts.toList.map fun q => ρ q.2)))) : OpRes P M w0 μ L w K o a := by
  subst hn
  obtain ⟨p1, p2, p3⟩ := parts_rel hρ parts
  have hu := run_elem he
  obtain ⟨z, hz⟩ := Option.isSome_iff_exists.1 hz
  obtain ⟨i, v0, hi, hv0, _⟩ := zero_of hz
  have hsz : i.size = 1 := by rw [← hs]; simp [szOf, Program.cellsOf, hi]
  have hl : (parts.toList.map fun q => a.eval q.2).length = 1 := by
    have := congrArg List.length hidx
    rw [upto_len] at this
    simpa using this
  generalize hds : (parts.toList.map fun q => ρ q.2) = ds at hone hK p1 p2 p3
  have hpm : (parts.map fun (x : Nat × Operand) => (x.1, a.eval x.2)).toList = (((parts.toList.map fun q => a.eval q.2).zipIdx 0).map fun x => (x.2, x.1)) := by
    rw [Array.toList_map]
    exact upto_zip 1 0 parts.toList hidx
  generalize hvs : (parts.toList.map fun q => a.eval q.2) = vs at hl p1 p2 hpm
  match vs, hl with
  | [v], _ =>
    match ds, p1 with
    | [d], _ =>
      have hd1 : d.one = true := by simpa using hone
      have hr := p2 0 d v rfl rfl
      have hc := cells_oneV (one_val hr hd1)
      have hcells : ∀ u, u ∈ [v] → u.cells.size = 1 := fun u hu' => by rw [List.mem_singleton.1 hu', hc]; rfl
      obtain ⟨r, hf, hrs, hrg⟩ := Great.fill_dense (s := 1) (by omega) [v] 0 ((Array.range (1 * i.size)).map (v0.cells[· % v0.cells.size]!)) hcells (by simp [hsz])
      have hrun := run_buildSlice (P := P) w t e 1 (parts.map fun (x : Nat × Operand) => (x.1, a.eval x.2)) r i v0 hu hi hv0 (by rw [hsz]; omega) (by rw [hsz]; omega) (by rw [hsz, hpm]; rw [hsz] at hf; exact hf)
      have hr0 : r[0]? = some v := by
        rw [hrg 0, if_pos (by simp)]
        simp [hc]
      have hsize : r.size = 1 := by rw [hrs]; simp [hsz]
      have hxr : (execOp a.eval o).run P w = .ok (.value (.slice (some ⟨w.heap.size, 0, none⟩) 1 1)) (w.alloc (.cells r e)) := by
        rw [show execOp a.eval o = (do pure (Next.value (← Instr.buildSlice t 1 (parts.map fun (x : Nat × Operand) => (x.1, a.eval x.2)))) : Sem Next) from by simp only [execOp, ho]]
        exact run_val hrun
      obtain ⟨hst, hr'⟩ := h.new (w1 := w) (.var [d]) ⟨w.heap.size, 1⟩ (.cells r e) ⟨rfl, rfl, rfl, rfl⟩ rfl (DV.unders_mono (Nat.le_succ _) _ p3) (fun hs' =>
        ⟨r, e, by rw [updμ_same]; exact heap_push_new w _, by simp [hsize], fun j d' v' hd hv => by
          cases j with
          | zero =>
            rw [hr0] at hv
            obtain rfl : d = d' := by simpa using hd
            obtain rfl := Option.some.inj hv
            exact hr.stp hs' (unders_iff.1 p3 0 d rfl)
          | succ j => simp at hd⟩)
      refine .val hxr ⟨_, .vbuf L.next 1, _, hK, hr', .vbuf _ _ _ ⟨_, _, rfl⟩ fun cs _ => ?_, ?_, hst⟩
      · rw [updμ_same]; exact ⟨rfl, Nat.le_refl _⟩
      · simp [DV.under, DH.push, Nat.blt_eq]

theorem res_buildSlice {t : TypeId} {n : Nat} {parts : Array (Nat × Operand)} (ho : o.op = .buildSlice t n parts) (h : HR M w0 μ L w) (hρ : Rho M μ L w ρ a) (hv : vcOp P M w0 dr ρ L o K) : OpRes P M w0 μ L w K o a := by
  simp only [vcOp, ho] at hv
  cases he : elemT P t with
  | none => simp [he] at hv
  | some e =>
    simp only [he] at hv
    obtain ⟨p1, p2, p3⟩ := parts_rel hρ parts
    generalize hc : ((parts.toList.map (·.1) == upto n 0) && Nat.ble (n * szOf P e) 16777216 && (zeroOf P e).isSome && !Nat.beq (szOf P e) 0) = c at hv
    have fin : ∀ (L' : DH) (ps : List PV), HR M w0 μ L' w → Stp L μ w L' μ w → ps.length = (parts.toList.map fun q => a.eval q.2).length → (∀ (i : Nat) p v, ps[i]? = some p → (parts.toList.map fun q => a.eval q.2)[i]? = some v → RelP (Tot M μ L') w p v) →
        c = true → (cellsAll (szOf P e) ps = true ∧ (match (generalizing := false) n with | 0 => K .e0 L' | _ + 1 => K (.pv (.sl ps)) L')) → OpRes P M w0 μ L w K o a := by
      intro L' ps h' hs hl hp hct hv
      rw [hct] at hc
      simp only [Bool.and_eq_true] at hc
      obtain ⟨⟨⟨c1, c2⟩, c3⟩, c4⟩ := hc
      obtain ⟨v, w', hr, hb, hrel, hz⟩ := lit_rel ho h' he (by simpa using c1) (by simpa using c2) c3 (by intro e0; rw [e0] at c4; simp at c4) hl hp hv.1
      obtain ⟨hs', h''⟩ := h'.more hb
      cases n with
      | zero =>
        obtain ⟨ad, rfl⟩ := hz rfl
        exact .val hr ⟨μ, .e0, L', hv.2, h'', .e0 ad, rfl, hs.trans hs'⟩
      | succ n => exact .val hr ⟨μ, .pv (.sl ps), L', hv.2, h'', .pv _ _ hrel, rfl, hs.trans hs'⟩
    cases c with
    | false => cases dr <;> simp at hv
    | true =>
      cases dr with
      | false =>
        simp only at hv
        rcases hv with hv | ⟨s1, s2, s3, hK⟩
        · obtain ⟨ps, L', hK, h', hs, hl, hp⟩ := frzs_rel _ L _ _ h p1 p2 p3 hv
          exact fin L' ps h' hs hl hp rfl hK
        · simp only [Bool.and_eq_true] at hc
          obtain ⟨⟨⟨c1, _⟩, c3⟩, _⟩ := hc
          exact lit_own ho h hρ he (by simpa using c1) c3 (beq_of s1) (beq_of s2) s3 hK
      | true =>
        simp only at hv
        obtain ⟨ps, hK, hl, hp⟩ := purs_rel _ _ _ p1 p2 hv
        exact fin L ps h (Stp.refl L μ w fun k o hk => (h.keys k o hk).1) hl hp rfl hK

theorem res_makeSlice {t : TypeId} {x y : Operand} (ho : o.op = .makeSlice t x y) (h : HR M w0 μ L w) (hρ : Rho M μ L w ρ a) (hv : vcOp P M w0 dr ρ L o K) : OpRes P M w0 μ L w K o a := by
  have hx := hρ.rel x
  have hy := hρ.rel y
  simp only [vcOp, ho] at hv
  cases he : elemT P t with
  | none => simp [he] at hv
  | some e =>
    simp only [he] at hv
    have hu := run_elem he
    split at hv
    · rename_i z k1 n k2 m hz hc e1 e2
      rw [e1] at hx; rw [e2] at hy
      obtain ⟨i, v0, hi, hv0, hzv⟩ := zero_of hz
      have hrz : RelV (Tot M μ L) w μ L z v0 := hzv ▸ relV_dvOf v0
      obtain ⟨p, ⟨hpl, hnm, hn0, hnb, hK⟩, hp⟩ := pur_rel z v0 _ hrz hv
      subst hnm
      simp only [Bool.and_eq_true] at hc
      have hb4 : byOf P e ≤ 4096 := by simpa using hc.1
      have hby : i.bytes = byOf P e := by simp [byOf, Program.bytesOf, hi]
      have hsz : i.size = szOf P e := by simp [szOf, Program.cellsOf, hi]
      have hnb' : n ≤ 4294967296 := hnb
      have hbytes : (i.bytes : Int) * n ≤ 281474976710656 := by
        have h1 : (i.bytes : Int) ≤ 4096 := by omega
        have h2 : (i.bytes : Int) * n ≤ 4096 * n := Int.mul_le_mul_of_nonneg_right h1 hn0
        omega
      have hrun := run_make (P := P) w t e i v0 hu hi hv0 k1 k2 n n hn0 (Int.le_refl _) hbytes (by omega)
      obtain ⟨g1, g2⟩ := relP_cells hp
      rcases hK with hK | ⟨hs1, hn1, hone, hK⟩
      rotate_left
      · have hs1 : szOf P e = 1 := beq_of hs1
        have hnp : n.toNat ≠ 0 := by omega
        have hv1 : v0.cells.size = 1 := by rw [← g1, hpl, hs1]
        have hrel : ∀ (w' : World) (μ' : Nat → Loc) (L' : DH), Stp L μ w L' μ' w' → ∀ j v, v0.cells[j]? = some v → RelV (Tot M μ' L') w' μ' L' (.pv p) v := fun w' μ' L' hs j v hv => by
          have hj : j < v0.cells.size := (Array.getElem?_eq_some_iff.1 hv).1
          have : j = 0 := by omega
          subst this
          have hpc := one_cells hone
          exact .pv _ _ ((g2 0 p v (by rw [hpc]; rfl) hv).stp hs)
        obtain ⟨hs, hr⟩ := h.new (w1 := w) (.var (List.replicate n.toNat (.pv p))) ⟨w.heap.size, n.toNat⟩ (.cells (madeCells v0.cells (n.toNat * i.size)) e) ⟨rfl, rfl, rfl, rfl⟩ rfl (by
            show DV.unders _ (List.replicate n.toNat (.pv p)) = true
            rw [unders_mem]; intro d hd; rw [List.eq_of_mem_replicate hd]; rfl) (fun hs => by
          refine ⟨_, e, by rw [updμ_same]; exact heap_push_new w _, by rw [size_madeCells, hsz, hs1]; simp, fun i' d' v' hd hv => ?_⟩
          have hd' : d' = .pv p := List.eq_of_mem_replicate (List.mem_of_getElem? hd)
          subst hd'
          have hil : i' < n.toNat := by have := (List.getElem?_eq_some_iff.1 hd).1; simpa using this
          unfold madeCells at hv
          rw [hsz, hs1, Nat.mul_one, Array.getElem?_map, Array.getElem?_range, if_pos hil] at hv
          simp only [Option.map_some, hv1, Nat.mod_one] at hv
          have hv := Option.some.inj hv
          refine hrel _ _ _ hs 0 v' ?_
          rw [← hv, getElem!_pos v0.cells 0 (by omega)]
          exact Array.getElem?_eq_getElem (by omega))
        refine .val (v := .slice (some ⟨w.heap.size, 0, none⟩) n.toNat n.toNat) (w' := w.alloc (.cells (madeCells v0.cells (n.toNat * i.size)) e)) ?_ ⟨_, .vbuf L.next n.toNat, _, hK, hr, ?_, ?_, hs⟩
        · rw [show execOp a.eval o = (do pure (Next.value (← Instr.makeSlice t (a.eval x) (a.eval y))) : Sem Next) from by simp only [execOp, ho]]
          rw [pvI hx, pvI hy]
          exact run_val hrun
        · exact .vbuf _ _ _ ⟨_, _, rfl⟩ fun cs _ => by rw [updμ_same]; exact ⟨rfl, Nat.le_refl _⟩
        · simp [DV.under, DH.push, Nat.blt_eq]
      have hvs : v0.cells.size = szOf P e := by rw [← g1]; exact hpl
      obtain ⟨hs, hr⟩ := h.new (w1 := w) (.arr (szOf P e) (List.replicate n.toNat p)) ⟨w.heap.size, n.toNat⟩ (.cells (madeCells v0.cells (n.toNat * i.size)) e) ⟨rfl, rfl, rfl, rfl⟩ rfl rfl (fun hs => by
        by_cases hz : n.toNat = 0
        · refine .inl ⟨by rw [updμ_same]; exact hz, by rw [hz]; rfl⟩
        · refine .inr ⟨_, e, by rw [updμ_same]; exact hz, by rw [updμ_same]; exact heap_push_new w _, by rw [updμ_same]; simp, ?_, ?_, ?_⟩
          · rw [updμ_same, size_madeCells, hsz]; exact Nat.le_refl _
          · intro q hq
            rw [List.eq_of_mem_replicate hq]; exact hpl
          · intro i' p' j q hp' hq
            have hp2 : p' = p := List.eq_of_mem_replicate (List.mem_of_getElem? hp')
            subst hp2
            have hil : i' < n.toNat := by have := getE_lt hp'; simpa using this
            have hjl : j < szOf P e := by rw [← hpl]; exact getE_lt hq
            have hlt := idx_lt hil hjl
            have hvj : v0.cells[j]? = some (v0.cells[j]'(by omega)) := Array.getElem?_eq_getElem (by omega)
            refine ⟨v0.cells[j]'(by omega), ?_, (g2 j q _ hq hvj).stp hs⟩
            have e2 : (i' * szOf P e + j) % szOf P e = j := by rw [Nat.mul_comm, Nat.mul_add_mod, Nat.mod_eq_of_lt hjl]
            have e3 : (i' * szOf P e + j) % v0.cells.size = j := by rw [hvs]; exact e2
            unfold madeCells
            rw [hsz, Array.getElem?_map, Array.getElem?_range, if_pos hlt]
            simp only [Option.map_some, e3]
            rw [getElem!_pos v0.cells j (by omega)])
      refine .val (v := .slice (some ⟨w.heap.size, 0, none⟩) n.toNat n.toNat) (w' := w.alloc (.cells (madeCells v0.cells (n.toNat * i.size)) e)) ?_ ⟨_, .buf L.next _, _, hK, hr, ?_, ?_, hs⟩
      · rw [show execOp a.eval o = (do pure (Next.value (← Instr.makeSlice t (a.eval x) (a.eval y))) : Sem Next) from by simp only [execOp, ho]]
        rw [pvI hx, pvI hy]
        exact run_val hrun
      · refine .buf _ _ _ ⟨_, _, by rw [List.length_replicate], fun _ => rfl⟩ (fun sz' es' hk' => ?_) (fun es' hk' => ?_)
        · rw [DH.push_same] at hk'; cases hk'
          refine ⟨Nat.le_refl _, fun _ => ?_⟩
          rw [updμ_same]
          by_cases hz : n.toNat = 0
          · exact .inl ⟨hz, by simp [hz], _, by rw [hz]⟩
          · exact .inr ⟨hz, by simp⟩
        · rw [DH.push_same] at hk'; cases hk'
      · simp [DV.under, DH.push, Nat.blt_eq]
    · exact hv.elim
end
end Go.Dv
namespace Go.Dv
open Go.RowKit (Below)
section
variable {P : Program} {M : Nat → Prop} {w0 : W0} {μ : Nat → Loc} {L : DH} {w : World} {a : Act} {ρ : Operand → DV} {K : DV → DH → Prop} {o : Oper} {dr : Bool}

/-- A row of elements, elements appended, and zeros. -/
theorem row_join {T : Nat → Prop} {sz : Nat} {es xs : List PV} {olds : List Value} {val : Nat → Nat → Value} (zs : List Value) (hes : ∀ p, p ∈ es → p.cells.length = sz) (hxs : ∀ p, p ∈ xs → p.cells.length = sz)
    (hol : olds.length = es.length * sz) (ho : ∀ (i : Nat) p (j : Nat) q, es[i]? = some p → p.cells[j]? = some q → ∃ v, olds[i * sz + j]? = some v ∧ RelP T w q v)
    (hx : ∀ (i : Nat) p (j : Nat) q, xs[i]? = some p → p.cells[j]? = some q → RelP T w q (val i j)) :
    ∀ (i : Nat) p (j : Nat) q, (es ++ xs)[i]? = some p → p.cells[j]? = some q → ∃ v, (olds ++ rowVals sz xs.length val ++ zs)[i * sz + j]? = some v ∧ RelP T w q v := by
  intro i p j q hp hq
  by_cases hi : i < es.length
  · rw [List.getElem?_append_left hi] at hp
    obtain ⟨v, hv, hr⟩ := ho i p j q hp hq
    have hj : j < sz := by rw [← hes p (List.mem_of_getElem? hp)]; exact getE_lt hq
    have hlt := idx_lt hi hj
    refine ⟨v, ?_, hr⟩
    rw [List.append_assoc, List.getElem?_append_left (by omega)]
    exact hv
  · rw [List.getElem?_append_right (by omega)] at hp
    have hil := getE_lt hp
    have hj : j < sz := by rw [← hxs p (List.mem_of_getElem? hp)]; exact getE_lt hq
    have hlt := idx_lt hil hj
    refine ⟨val (i - es.length) j, ?_, hx _ p j q hp hq⟩
    have he : i * sz + j - olds.length = (i - es.length) * sz + j := by
      rw [hol, Nat.sub_mul]
      have := Nat.mul_le_mul_right sz (Nat.le_of_not_lt hi)
      omega
    have hge : olds.length ≤ i * sz + j := by
      rw [hol]
      have := Nat.mul_le_mul_right sz (Nat.le_of_not_lt hi)
      omega
    rw [List.append_assoc, List.getElem?_append_right hge, he, List.getElem?_append_left (by rw [rowVals_len]; exact hlt), rowVals_get val hil hj]

theorem app_fit {n cap b : Nat} (hn : n ≤ 4294967296) (hb : b ≤ 4096) (hc : cap < n) : ((n : Nat) : Int) ≤ 9223372036854775807 ∧ Builtin.nextslicecap n cap * b ≤ 281474976710656 := by
  refine ⟨by omega, growslice_fits hc ?_⟩
  have := Nat.mul_le_mul hn hb
  omega

theorem grown_ge (need cap : Nat) (e : TypeId) : need ≤ grownCap w need cap e := by
  show need ≤ need + _ % _
  omega

theorem res_append {c : Call} {x y : Operand} {t t2 : TypeId} (ho : o.op = .call c) (hc : c.callee = .builtin .append) (ha : c.args = #[x, y]) (ht : c.argTypes = #[t, t2]) (h : HR M w0 μ L w) (hρ : Rho M μ L w ρ a)
    (hv : vcApp P t t2 (ρ x) (ρ y) L K) : OpRes P M w0 μ L w K o a := by
  have hx := hρ.rel x
  have hy := hρ.rel y
  unfold vcApp at hv
  cases he : elemT P t with
  | none => simp [he] at hv
  | some e =>
    cases ht2 : P.underlying t2 with
    | none => simp [he, ht2] at hv
    | some d2 =>
      cases d2 <;> simp only [he, ht2] at hv
      rename_i e2
      have hu := run_elem he
      split at hv
      case h_2 => exact hv.elim
      rename_i z hz hcnd
      simp only [Bool.and_eq_true] at hcnd
      obtain ⟨hzl, hv⟩ := hv
      obtain ⟨i, v0, hi, hv0, hzv⟩ := zero_of hz
      have hb4 : byOf P e ≤ 4096 := by simpa using hcnd.1.1
      have hs0 : szOf P e ≠ 0 := by intro e0; have := hcnd.2; rw [e0] at this; simp at this
      have hby : i.bytes = byOf P e := by simp [byOf, Program.bytesOf, hi]
      have hsz : i.size = szOf P e := by simp [szOf, Program.cellsOf, hi]
      have hzs : v0.cells.size = szOf P e := by
        rw [← hzl, hzv]
        unfold dvOf
        split
        · simp [DV.cells, Value.cells]
        · rename_i hna
          have e1 : v0.cells = #[v0] := by cases v0 <;> first | rfl | exact absurd rfl (hna _)
          rw [e1]
          unfold dv1
          split <;> rfl
      have run : ∀ v w', (Builtin.append_ #[t, t2] o.type #[a.eval x, a.eval y]).run P w = .ok v w' → (execOp a.eval o).run P w = .ok (.value v) w' := by
        intro v w' hr
        rw [run_bi ho hc, ha, ht]
        exact run_val (by simpa using hr)
      -- onto nothing
      have fresh : ∀ ad, a.eval x = .slice ad 0 0 → RelV (Tot M μ L) w μ L (ρ x) (a.eval x) → (ρ x).under L.next = true → (srcOf (ρ y) L fun xs => cellsAll (szOf P e) xs = true ∧ xs.length ≤ big ∧ (match xs with
          | [] => K (ρ x) L
          | _ :: _ => K (.buf L.next xs.length) (L.push (.arr (szOf P e) xs)))) → OpRes P M w0 μ L w K o a := by
        intro ad hxx hxr hxu hsrc
        obtain ⟨xs, val, ⟨hca, hbg, hK⟩, hlen, hfc, hrel⟩ := src_rel (P := P) (sz := szOf P e) h hy hsrc (fun xs hh => hh.1)
        have hcl := cellsAll_iff hca
        cases xs with
        | nil =>
          have hr := run_append_here (P := P) (w := w) t t2 o.type e i hu e2 ht2 hi ad 0 0 0 (a.eval y) _ (hlen w) (by rw [hsz]; exact hfc w rfl) (by omega) w (by cases ad <;> simp [rowVals, storeCells])
          refine .val (run _ _ (by rw [hxx]; exact hr)) (Out.id h ?_ hxu hK)
          rw [← hxx]; exact hxr
        | cons p r =>
          have hn : (p :: r).length ≤ 4294967296 := hbg
          obtain ⟨f1, f2⟩ := app_fit (cap := 0) hn hb4 (by simp)
          have hr := run_append_more (P := P) (w := w) t t2 o.type e i v0 hu e2 ht2 hi hv0 ad 0 0 (p :: r).length (a.eval y) #[] _ (hlen w) (by cases ad <;> simp [Builtin.firstCells, loadCells, loadCellsFrom]) (by rw [hsz]; exact hfc w.drew rfl) (by simp) (by rw [Nat.zero_add]; exact f1) (by rw [Nat.zero_add, hby]; exact f2)
          rw [Nat.zero_add] at hr
          have hge := grown_ge (w := w) (p :: r).length 0 e
          have hpos : 0 < (p :: r).length := by simp
          obtain ⟨hs, hr'⟩ := h.new (w1 := w.drew) (.arr (szOf P e) (p :: r)) ⟨w.heap.size, grownCap w (p :: r).length 0 e⟩ (.cells (#[] ++ (rowVals (szOf P e) (p :: r).length val).toArray ++ Builtin.zeroCells v0.cells (grownCap w (p :: r).length 0 e - (p :: r).length)) e) ⟨rfl, rfl, rfl, rfl⟩ rfl rfl (fun hs => by
            refine .inr ⟨_, e, by rw [updμ_same]; simp only; omega, by rw [updμ_same]; exact heap_push_new w.drew _, by rw [updμ_same]; exact hge, ?_, hcl, ?_⟩
            · rw [updμ_same]
              simp only [Array.size_append, List.size_toArray, rowVals_len, size_zeroCells, hzs, List.length_nil, Nat.zero_add]
              rw [← Nat.add_mul]
              exact Nat.mul_le_mul_right _ (by omega)
            · intro i' p' j q hp' hq
              obtain ⟨v, hv, hrr⟩ := row_join (T := Tot M μ L) (w := w) (es := []) (olds := []) (Builtin.zeroCells v0.cells (grownCap w (p :: r).length 0 e - (p :: r).length)).toList (by simp) hcl (by simp) (by simp) hrel i' p' j q hp' hq
              refine ⟨v, ?_, hrr.stp hs⟩
              rw [← Array.getElem?_toList]
              simpa using hv)
          refine .val (run _ _ (by rw [hxx]; exact hr)) ⟨_, .buf L.next _, _, hK, hr', ?_, ?_, hs⟩
          · refine .buf _ _ _ ⟨_, _, rfl, fun _ => rfl⟩ (fun sz' es' hk' => ?_) (fun es' hk' => ?_)
            · rw [DH.push_same] at hk'; cases hk'
              refine ⟨Nat.le_refl _, fun _ => .inr ⟨?_, ?_⟩⟩
              · rw [updμ_same]; simp only; omega
              · rw [updμ_same]
            · rw [DH.push_same] at hk'; cases hk'
          · simp [DV.under, DH.push, Nat.blt_eq]
      have hxu := hρ.und x
      generalize hdx : ρ x = dx at hv hx fresh hxu
      split at hv
      · exact fresh none (pvN hx) hx hxu hv
      · generalize hxx : a.eval x = vx at hx
        cases hx
        exact fresh _ hxx (hxx ▸ .e0 _) hxu hv
      · rename_i k n
        cases hk : L.get k with
        | none => simp [hk] at hv
        | some ob =>
          cases ob <;> simp only [hk] at hv
          case arr sz es =>
            generalize hcc : (Nat.beq sz (szOf P e) && Nat.ble L.lo k && notKey (ρ y) k) = cc at hv
            cases cc with
            | false => exact hv.elim
            | true =>
              simp only [Bool.and_eq_true] at hcc
              obtain ⟨⟨c1, c2⟩, c3⟩ := hcc
              have hsze : sz = szOf P e := beq_of c1
              subst hsze
              have hlo : L.lo ≤ k := by simpa using c2
              obtain ⟨hn, hsrc⟩ := hv
              obtain ⟨xs, val, ⟨hca, hbg, hK⟩, hlen, hfc, hrel⟩ := src_rel (P := P) (sz := szOf P e) h hy hsrc (fun xs hh => hh.1)
              have hcl := cellsAll_iff hca
              have hbg' : es.length + xs.length ≤ 4294967296 := hbg
              have hkn := (h.keys k _ hk).1
              have hbuf : bufVal (μ k) n (a.eval x) := by
                cases hx with
                | buf _ _ _ g1 g2 g3 => exact (g2 _ es hk).2 hn
              have hecl : ∀ p, p ∈ es → p.cells.length = szOf P e := fun p hp => by
                obtain ⟨j, hj⟩ := List.mem_iff_getElem?.1 hp
                exact (arr_cells h hk hj).2.1
              have hacl : ∀ p, p ∈ es ++ xs → p.cells.length = szOf P e := fun p hp => by
                rcases List.mem_append.1 hp with hp | hp
                · exact hecl p hp
                · exact hcl p hp
              have hbelow : (DV.buf k (es ++ xs).length).under (L.put k (.arr (szOf P e) (es ++ xs))).next = true := by
                simpa [DV.under, DH.put, Nat.blt_eq] using hkn
              have hrv : ∀ (w1 : World) (m' : Loc) v, bufVal m' (es ++ xs).length v → (∃ ad cap, v = .slice ad (es ++ xs).length cap ∧ (0 < (es ++ xs).length → ad.isSome = true)) → RelV (Tot M (updμ μ k m') (L.put k (.arr (szOf P e) (es ++ xs)))) w1 (updμ μ k m') (L.put k (.arr (szOf P e) (es ++ xs))) (.buf k (es ++ xs).length) v := by
                intro w1 m' v hb h1
                refine .buf _ _ _ h1 (fun sz' es' hk' => ?_) (fun es' hk' => ?_)
                · rw [DH.put_same] at hk'; cases hk'; exact ⟨Nat.le_refl _, fun _ => by rw [updμ_same]; exact hb⟩
                · rw [DH.put_same] at hk'; cases hk'
              by_cases hfit : es.length + xs.length ≤ (μ k).cap
              · -- there is room
                rcases hbuf with ⟨hc0, h0, ad, hxx⟩ | ⟨hc0, hxx⟩
                · have hxe : xs = [] := List.length_eq_zero_iff.1 (by omega)
                  have hee : es = [] := List.length_eq_zero_iff.1 (by omega)
                  subst hxe; subst hee
                  have hr := run_append_here (P := P) (w := w) t t2 o.type e i hu e2 ht2 hi ad 0 0 0 (a.eval y) _ (hlen w) (by rw [hsz]; exact hfc w rfl) (by omega) w (by cases ad <;> simp [rowVals, storeCells])
                  obtain ⟨hs, hr'⟩ := h.upd (L' := L.put k (.arr (szOf P e) ([] ++ []))) (w' := w) k (.arr (szOf P e) ([] ++ [])) (μ k) (DH.put_same L k _) (fun j hj => DH.put_ne L _ hj) (Nat.le_refl _) rfl rfl hkn rfl rfl rfl rfl (Nat.le_refl _) (fun _ _ _ => rfl) (fun _ _ _ _ _ => rfl)
                    (fun hl => absurd hc0 hl) (fun _ => ⟨(fun _ e => by cases e), (fun _ e => by cases e), (fun _ _ e => by cases e; exact ⟨[], hk, .inr ⟨rfl, rfl⟩⟩), (fun _ e => by cases e), (fun _ e => by cases e)⟩) (fun _ => .inl ⟨by rw [updμ_same]; exact hc0, rfl⟩)
                  exact .val (run _ _ (by rw [hxx]; exact hr)) ⟨_, _, _, hK, hr', hrv w (μ k) _ (.inl ⟨hc0, rfl, ad, rfl⟩) ⟨_, _, rfl, fun h => absurd h (Nat.lt_irrefl 0)⟩, hbelow, hs⟩
                · rcases h.obj k _ hk with ⟨g0, _⟩ | ⟨vs, ty, g0, g1, g2, g3, g4, g5⟩
                  · exact absurd g0 hc0
                  · have hcap : (es.length + xs.length) * szOf P e ≤ vs.size := Nat.le_trans (Nat.mul_le_mul_right _ hfit) g3
                    rw [Nat.add_mul] at hcap
                    have hst := run_storeCells_at (P := P) (μ k).blk (es.length * szOf P e) ty (rowVals (szOf P e) xs.length val) 0 vs w g1 (by rw [rowVals_len]; omega) (by
                      intro u hu
                      obtain ⟨m, hm⟩ := List.mem_iff_getElem?.1 hu
                      have hml := getE_lt hm
                      rw [rowVals_len] at hml
                      have hs : 0 < szOf P e := by omega
                      have h1 : m / szOf P e < xs.length := (Nat.div_lt_iff_lt_mul hs).2 hml
                      have h2 : m % szOf P e < szOf P e := Nat.mod_lt _ hs
                      have h3 := rowVals_get val h1 h2
                      rw [Nat.div_add_mod'] at h3
                      rw [h3] at hm
                      obtain rfl := Option.some.inj hm
                      have hp : xs[m / szOf P e]? = some xs[m / szOf P e] := List.getElem?_eq_getElem h1
                      have hl := hcl _ (List.getElem_mem h1)
                      have hq : (xs[m / szOf P e]).cells[m % szOf P e]? = some ((xs[m / szOf P e]).cells[m % szOf P e]'(by omega)) := List.getElem?_eq_getElem (by omega)
                      have hrq := hrel _ _ _ _ hp hq
                      -- a cell's value is one cell: the element's own cells are flat
                      exact one_valP hrq (cellsAll_one hca _ (List.getElem_mem h1) _ (List.getElem_mem (by omega))))
                    have hr := run_append_here (P := P) (w := w) t t2 o.type e i hu e2 ht2 hi (some ⟨(μ k).blk, 0, none⟩) n (μ k).cap xs.length (a.eval y) _ (hlen w) (by rw [hsz]; exact hfc w rfl) (by omega) _ (by
                      simp only [add_none, Nat.zero_add, hn, hsz]
                      simp only [Nat.add_zero] at hst
                      exact hst)
                    have hvs : (vs.toList.take (es.length * szOf P e)).length = es.length * szOf P e := by simp; omega
                    obtain ⟨hs, hr'⟩ := h.write (w' := w.setRow (μ k).blk (vs.toList.take (es.length * szOf P e) ++ rowVals (szOf P e) xs.length val ++ vs.toList.drop (es.length * szOf P e + (rowVals (szOf P e) xs.length val).length)).toArray) k _ (.arr (szOf P e) (es ++ xs)) hk hc0 hlo rfl rfl rfl rfl (setRow_size _ _ _).symm
                      (fun b hb => setRow_other w _ _ _ hb) ⟨(fun _ e => by cases e), (fun _ e => by cases e), (fun _ _ e => by
                        cases e
                        refine ⟨es, hk, ?_⟩
                        cases xs with
                        | nil => exact .inr ⟨by simp, rfl⟩
                        | cons => exact .inl (by simp)), (fun _ e => by cases e), (fun _ e => by cases e)⟩ (fun hs => by
                        refine .inr ⟨_, ty, by rw [updμ_same]; exact hc0, by rw [updμ_same]; exact setRow_heap w _ _ _ ty _ g1, by rw [updμ_same]; simpa using hfit, ?_, hacl, ?_⟩
                        · rw [updμ_same]
                          simp only [List.size_toArray, List.length_append, hvs, rowVals_len, List.length_drop, Array.length_toList]
                          omega
                        · intro i' p' j q hp' hq
                          obtain ⟨v, hv, hrr⟩ := row_join (T := Tot M μ L) (w := w) (vs.toList.drop (es.length * szOf P e + (rowVals (szOf P e) xs.length val).length)) hecl hcl hvs (fun i p j q hp hq => by
                            obtain ⟨v, hv, hr⟩ := g5 i p j q hp hq
                            have hlt := idx_lt (getE_lt hp) (by rw [← hecl p (List.mem_of_getElem? hp)]; exact getE_lt hq : j < szOf P e)
                            refine ⟨v, ?_, hr⟩
                            rw [List.getElem?_take, if_pos hlt]
                            simpa using hv) hrel i' p' j q hp' hq
                          refine ⟨v, ?_, hrr.stp hs⟩
                          simpa using hv)
                    refine .val (run _ _ (by rw [hxx]; exact hr)) ⟨_, _, _, hK, hr', hrv _ (μ k) _ (.inr ⟨hc0, ?_⟩) ⟨_, _, by rw [List.length_append, ← hn], fun _ => rfl⟩, hbelow, hs⟩
                    simp [hn]
              · -- a new array
                have hcap : (μ k).cap < es.length + xs.length := by omega
                obtain ⟨f1, f2⟩ := app_fit (cap := (μ k).cap) hbg' hb4 hcap
                -- the old elements
                have hold : ∃ (ad : Option Addr) (olds : List Value), a.eval x = .slice ad es.length (μ k).cap ∧ (Builtin.firstCells (szOf P e) es.length (.slice ad es.length (μ k).cap)).run P w.drew = .ok olds.toArray w.drew ∧ olds.length = es.length * szOf P e ∧
                    ∀ (i : Nat) p (j : Nat) q, es[i]? = some p → p.cells[j]? = some q → ∃ v, olds[i * szOf P e + j]? = some v ∧ RelP (Tot M μ L) w q v := by
                  rcases hbuf with ⟨hc0, h0, ad, hxx⟩ | ⟨hc0, hxx⟩
                  · have hee : es = [] := List.length_eq_zero_iff.1 (by omega)
                    subst hee
                    refine ⟨ad, [], by rw [hxx, hc0]; rfl, ?_, by simp, fun i p j q hp _ => by simp at hp⟩
                    cases ad <;> simp [Builtin.firstCells, loadCells, loadCellsFrom]
                  · rcases h.obj k _ hk with ⟨g0, _⟩ | ⟨vs, ty, g0, g1, g2, g3, g4, g5⟩
                    · exact absurd g0 hc0
                    · have hrow : RowAt (Tot M μ L) w (μ k).blk 0 (szOf P e) es (fun i j => (vs[i * szOf P e + j]?).getD undef) := by
                        intro i p j q hp hq
                        obtain ⟨v, hv, hr⟩ := g5 i p j q hp hq
                        simp [World.cell?, g1, hv, hr]
                      refine ⟨some ⟨(μ k).blk, 0, none⟩, rowVals (szOf P e) es.length (fun i j => (vs[i * szOf P e + j]?).getD undef), by rw [hxx, hn], ?_, rowVals_len _ _ _, fun i p j q hp hq => ?_⟩
                      · simp only [Builtin.firstCells]
                        exact row_load hrow hecl w.drew rfl
                      · have hj : j < szOf P e := by rw [← hecl p (List.mem_of_getElem? hp)]; exact getE_lt hq
                        exact ⟨_, rowVals_get _ (getE_lt hp) hj, (hrow i p j q hp hq).2⟩
                obtain ⟨ad, olds, hxx, hfo, hol, hor⟩ := hold
                have hr := run_append_more (P := P) (w := w) t t2 o.type e i v0 hu e2 ht2 hi hv0 ad es.length (μ k).cap xs.length (a.eval y) olds.toArray _ (hlen w) (by rw [hsz]; exact hfo) (by rw [hsz]; exact hfc w.drew rfl) hcap f1 (by rw [hby]; exact f2)
                have hge := grown_ge (w := w) (es.length + xs.length) (μ k).cap e
                have hold' : ∀ b, b < w.heap.size → (w.drew.alloc (.cells (olds.toArray ++ (rowVals (szOf P e) xs.length val).toArray ++ Builtin.zeroCells v0.cells (grownCap w (es.length + xs.length) (μ k).cap e - (es.length + xs.length))) e)).heap[b]? = w.heap[b]? := fun b hb => heap_push_old w.drew _ hb
                obtain ⟨hs, hr'⟩ := h.upd (L' := L.put k (.arr (szOf P e) (es ++ xs))) (w' := w.drew.alloc (.cells (olds.toArray ++ (rowVals (szOf P e) xs.length val).toArray ++ Builtin.zeroCells v0.cells (grownCap w (es.length + xs.length) (μ k).cap e - (es.length + xs.length))) e)) k (.arr (szOf P e) (es ++ xs)) ⟨w.heap.size, grownCap w (es.length + xs.length) (μ k).cap e⟩
                  (DH.put_same L k _) (fun j hj => DH.put_ne L _ hj) (Nat.le_refl _) rfl rfl hkn rfl rfl rfl rfl (by simp) (fun b hb _ => hold' b hb) (fun j ob _ hj hl => hold' _ (h.live j ob hj hl).1)
                  (fun _ => .inr ⟨Nat.le_refl _, by simp⟩) (fun _ => ⟨(fun _ e => by cases e), (fun _ e => by cases e), (fun _ _ e => by
                    cases e
                    refine ⟨es, hk, .inl ?_⟩
                    have : es.length ≤ (μ k).cap := by
                      rcases h.obj k _ hk with ⟨g0, g1⟩ | ⟨vs, ty, g0, g1, g2, g3, g4, g5⟩
                      · subst g1; simp
                      · exact g2
                    simp only [List.length_append]; omega), (fun _ e => by cases e), (fun _ e => by cases e)⟩) (fun hs => by
                    refine .inr ⟨_, e, by rw [updμ_same]; simp only; omega, by rw [updμ_same]; exact heap_push_new w.drew _, by rw [updμ_same]; simpa using hge, ?_, hacl, ?_⟩
                    · rw [updμ_same]
                      simp only [Array.size_append, List.size_toArray, rowVals_len, size_zeroCells, hzs, hol]
                      rw [← Nat.add_mul, ← Nat.add_mul]
                      exact Nat.mul_le_mul_right _ (by omega)
                    · intro i' p' j q hp' hq
                      obtain ⟨v, hv, hrr⟩ := row_join (T := Tot M μ L) (w := w) (Builtin.zeroCells v0.cells (grownCap w (es.length + xs.length) (μ k).cap e - (es.length + xs.length))).toList hecl hcl hol hor hrel i' p' j q hp' hq
                      refine ⟨v, ?_, hrr.stp hs⟩
                      rw [← Array.getElem?_toList]
                      simpa using hv)
                refine .val (run _ _ (by rw [hxx]; exact hr)) ⟨_, _, _, hK, hr', hrv _ _ _ (.inr ⟨by simp only; omega, ?_⟩) ⟨_, _, by rw [List.length_append, ← hn], fun _ => rfl⟩, hbelow, hs⟩
                simp
          all_goals exact hv.elim
      · exact hv.elim
/-! cells that are not pure -/
theorem take_list (vs : Array Value) {n : Nat} (h : n ≤ vs.size) : ((List.range n).map fun m => (vs[m]?).getD undef).length = n ∧ (∀ (i : Nat), i < n → ((List.range n).map fun m => (vs[m]?).getD undef)[i]? = vs[i]?) := by
  refine ⟨by simp, fun i hi => ?_⟩
  rw [List.getElem?_map, List.getElem?_range hi, Option.map_some, Array.getElem?_eq_getElem (by omega : i < vs.size)]; rfl
theorem cells_load {b : Nat} {vs : Array Value} {ty : TypeId} {n : Nat} (hb : w.heap[b]? = some (.cells vs ty (0, 0))) (hn : n ≤ vs.size) (w' : World) (hw : w'.heap = w.heap) :
    (loadCells ⟨b, 0, none⟩ (n * 1)).run P w' = .ok ((List.range n).map fun m => (vs[m]?).getD undef).toArray w' := by
  rw [Nat.mul_one]
  refine run_loadCells w' _ _ (fun m => (vs[m]?).getD undef) fun m hm => ?_
  rw [add_none, Nat.zero_add, World.cell?_of_block (w := w) (by rw [hw])]
  simp [World.cell?, hb, Array.getElem?_eq_getElem (by omega : m < vs.size)]
/-- Cells in a row, and more of them. -/
theorem cells_join {T : Nat → Prop} {es ds : List DV} {olds xs zs : List Value} (hol : olds.length = es.length) (hxl : xs.length = ds.length)
    (ho : ∀ (i : Nat) d v, es[i]? = some d → olds[i]? = some v → RelV T w μ L d v) (hx : ∀ (i : Nat) d v, ds[i]? = some d → xs[i]? = some v → RelV T w μ L d v) :
    ∀ (i : Nat) d v, (es ++ ds)[i]? = some d → (olds ++ xs ++ zs)[i]? = some v → RelV T w μ L d v := by
  intro i d v hd hv
  by_cases hi : i < es.length
  · rw [List.getElem?_append_left hi] at hd
    rw [List.append_assoc, List.getElem?_append_left (by omega)] at hv
    exact ho i d v hd hv
  · rw [List.getElem?_append_right (by omega)] at hd
    have hlt := getE_lt hd
    rw [List.append_assoc, List.getElem?_append_right (by omega), List.getElem?_append_left (by omega), hol] at hv
    exact hx _ d v hd hv
theorem res_append2 {c : Call} {x y : Operand} {t t2 : TypeId} {kx nx : Nat} (ho : o.op = .call c) (hc : c.callee = .builtin .append) (ha : c.args = #[x, y]) (ht : c.argTypes = #[t, t2]) (h : HR M w0 μ L w) (hρ : Rho M μ L w ρ a)
    (hyb : ρ y = .vbuf kx nx) (hv : vcApp2 P t t2 (ρ x) kx nx L K) : OpRes P M w0 μ L w K o a := by
  have hx := hρ.rel x
  have hy := hρ.rel y
  rw [hyb] at hy
  unfold vcApp2 at hv
  cases he : elemT P t with
  | none => simp [he] at hv
  | some e =>
    cases ht2 : P.underlying t2 with
    | none => simp [he, ht2] at hv
    | some d2 =>
      cases d2 <;> simp only [he, ht2] at hv
      rename_i e2
      cases hkx : L.get kx with
      | none => simp [hkx] at hv
      | some ob =>
        cases ob <;> simp only [hkx] at hv
        rename_i ds
        have hu := run_elem he
        split at hv
        case h_2 => exact hv.elim
        rename_i z hz hcnd
        simp only [Bool.and_eq_true] at hcnd
        obtain ⟨hzl, hone, hnx, hpos, hv⟩ := hv
        subst hnx
        obtain ⟨i, v0, hi, hv0, hzv⟩ := zero_of hz
        have hb4 : byOf P e ≤ 4096 := by simpa using hcnd.1.1
        have hs1 : szOf P e = 1 := beq_of hcnd.2
        have hby : i.bytes = byOf P e := by simp [byOf, Program.bytesOf, hi]
        have hsz : i.size = 1 := by rw [← hs1]; simp [szOf, Program.cellsOf, hi]
        have hzs : v0.cells.size = 1 := by
          rw [← hzl, hzv]
          unfold dvOf
          split
          · simp [DV.cells, Value.cells]
          · rename_i hna
            have e1 : v0.cells = #[v0] := by cases v0 <;> first | rfl | exact absurd rfl (hna _)
            rw [e1]
            unfold dv1
            split <;> rfl
        have run : ∀ v w', (Builtin.append_ #[t, t2] o.type #[a.eval x, a.eval y]).run P w = .ok v w' → (execOp a.eval o).run P w = .ok (.value v) w' := by
          intro v w' hr
          rw [run_bi ho hc, ha, ht]
          exact run_val (by simpa using hr)
        -- what is appended
        obtain ⟨vx, tyx, b1, b2, b3⟩ := h.obj kx _ hkx
        have hdu : DV.unders L.next ds = true := (h.keys kx _ hkx).2
        obtain ⟨hxl, hxg⟩ := take_list vx b2
        have hyv : a.eval y = .slice (some ⟨(μ kx).blk, 0, none⟩) ds.length (μ kx).cap := by
          cases hy with
          | vbuf _ _ _ g1 g2 => exact (g2 ds hkx).1
        have hlen : (Builtin.lenOf (a.eval y)).run P w = .ok ds.length w := by rw [hyv]; simp [Builtin.lenOf]
        have hfc : ∀ w' : World, w'.heap = w.heap → (Builtin.firstCells i.size ds.length (a.eval y)).run P w' = .ok ((List.range ds.length).map fun m => (vx[m]?).getD undef).toArray w' := fun w' hw => by
          rw [hyv, hsz]
          simp only [Builtin.firstCells]
          exact cells_load b1 b2 w' hw
        have hxr : ∀ (i : Nat) d v, ds[i]? = some d → ((List.range ds.length).map fun m => (vx[m]?).getD undef)[i]? = some v → RelV (Tot M μ L) w μ L d v := fun i d v hd hv => by
          rw [hxg i (getE_lt hd)] at hv
          exact b3 i d v hd hv
        generalize (List.range ds.length).map (fun m => (vx[m]?).getD undef) = xs at hxl hxg hfc hxr
        have hx1 : ∀ u, u ∈ xs → u.oneCell' = true := fun u hu' => by
          obtain ⟨j, hj⟩ := List.mem_iff_getElem?.1 hu'
          have hjl := getE_lt hj
          have hdj : ds[j]? = some (ds[j]'(by omega)) := List.getElem?_eq_getElem (by omega)
          exact one_val (hxr j _ u hdj hj) (List.all_eq_true.1 hone _ (List.getElem_mem _))
        generalize hdx : ρ x = dx at hv hx
        split at hv
        · -- onto nothing
          obtain ⟨hbg, hK⟩ := hv
          have hbg' : ds.length ≤ 4294967296 := hbg
          have hxx := pvN hx
          obtain ⟨f1, f2⟩ := app_fit (cap := 0) hbg' hb4 (by omega)
          have hr := run_append_more (P := P) (w := w) t t2 o.type e i v0 hu e2 ht2 hi hv0 none 0 0 ds.length (a.eval y) #[] _ hlen (by simp [Builtin.firstCells]) (hfc w.drew rfl) (by omega) (by rw [Nat.zero_add]; exact f1) (by rw [Nat.zero_add, hby]; exact f2)
          rw [Nat.zero_add] at hr
          have hge := grown_ge (w := w) ds.length 0 e
          obtain ⟨hs, hr'⟩ := h.new (w1 := w.drew) (.row ds) ⟨w.heap.size, grownCap w ds.length 0 e⟩ (.cells (#[] ++ xs.toArray ++ Builtin.zeroCells v0.cells (grownCap w ds.length 0 e - ds.length)) e) ⟨rfl, rfl, rfl, rfl⟩ rfl (DV.unders_mono (Nat.le_succ _) _ hdu) (fun hs => by
            refine .inr ⟨_, e, by rw [updμ_same]; simp only; omega, by rw [updμ_same]; exact heap_push_new w.drew _, by rw [updμ_same]; exact hge, ?_, fun j d v hd hv => ?_⟩
            · rw [updμ_same]
              simp only [Array.size_append, List.size_toArray, size_zeroCells, hzs, hxl, List.length_nil, Nat.zero_add]
              omega
            · have hlt := getE_lt hd
              have hv2 : xs[j]? = some v := by
                rw [← Array.getElem?_toList] at hv
                simp only [Array.toList_append] at hv
                rw [List.getElem?_append_left (by simp; omega)] at hv
                simpa using hv
              exact (hxr j d v hd hv2).stp hs (unders_iff.1 hdu j d hd))
          refine .val (run _ _ (by rw [hxx]; exact hr)) ⟨_, .rbuf L.next ds.length, _, hK, hr', .rbuf _ _ _ ⟨_, _, rfl, fun _ => rfl⟩ fun es' hk' => ?_, ?_, hs⟩
          · rw [DH.push_same] at hk'; cases hk'
            refine ⟨Nat.le_refl _, fun _ => .inr ⟨?_, ?_⟩⟩
            · rw [updμ_same]; simp only; omega
            · rw [updμ_same]
          · simp [DV.under, DH.push, Nat.blt_eq]
        · -- onto an array of such
          rename_i k n
          cases hk : L.get k with
          | none => simp [hk] at hv
          | some ob =>
            cases ob <;> simp only [hk] at hv
            case row es =>
              obtain ⟨hlo, hn, hbg, hK⟩ := hv
              have hlo : L.lo ≤ k := by simpa using hlo
              have hbg' : es.length + ds.length ≤ 4294967296 := hbg
              have hkn := (h.keys k _ hk).1
              have heu : DV.unders L.next es = true := (h.keys k _ hk).2
              have hau : DV.unders L.next (es ++ ds) = true := by
                rw [unders_mem]
                intro d hd
                rcases List.mem_append.1 hd with hd | hd
                · exact unders_mem.1 heu d hd
                · exact unders_mem.1 hdu d hd
              have hbuf : bufVal (μ k) n (a.eval x) := by
                cases hx with
                | rbuf _ _ _ g1 g2 => exact (g2 es hk).2 hn
              have hbelow : (DV.rbuf k (es ++ ds).length).under (L.put k (.row (es ++ ds))).next = true := by
                simpa [DV.under, DH.put, Nat.blt_eq] using hkn
              have hrv : ∀ (w1 : World) (m' : Loc) v, bufVal m' (es ++ ds).length v → (∃ ad cap, v = .slice ad (es ++ ds).length cap ∧ (0 < (es ++ ds).length → ad.isSome = true)) → RelV (Tot M (updμ μ k m') (L.put k (.row (es ++ ds)))) w1 (updμ μ k m') (L.put k (.row (es ++ ds))) (.rbuf k (es ++ ds).length) v := by
                intro w1 m' v hb h1
                refine .rbuf _ _ _ h1 fun es' hk' => ?_
                rw [DH.put_same] at hk'; cases hk'; exact ⟨Nat.le_refl _, fun _ => by rw [updμ_same]; exact hb⟩
              by_cases hfit : es.length + ds.length ≤ (μ k).cap
              · -- there is room
                rcases hbuf with ⟨hc0, _, _, _⟩ | ⟨hc0, hxx⟩
                · omega
                · rcases h.obj k _ hk with ⟨g0, _⟩ | ⟨vs, ty, g0, g1, g2, g3, g5⟩
                  · exact absurd g0 hc0
                  · have hst := run_storeCells_at (P := P) (μ k).blk es.length ty xs 0 vs w g1 (by omega) hx1
                    simp only [Nat.add_zero] at hst
                    have hr := run_append_here (P := P) (w := w) t t2 o.type e i hu e2 ht2 hi (some ⟨(μ k).blk, 0, none⟩) n (μ k).cap ds.length (a.eval y) _ hlen (hfc w rfl) (by omega) _ (by
                      simp only [add_none, Nat.zero_add, hn, hsz, Nat.mul_one]
                      exact hst)
                    have hvs : (vs.toList.take es.length).length = es.length := by simp; omega
                    obtain ⟨hs, hr'⟩ := h.write (w' := w.setRow (μ k).blk (vs.toList.take es.length ++ xs ++ vs.toList.drop (es.length + xs.length)).toArray) k _ (.row (es ++ ds)) hk hc0 hlo hau rfl rfl rfl (setRow_size _ _ _).symm
                      (fun b hb => setRow_other w _ _ _ hb) ⟨(fun _ e => by cases e), (fun _ e => by cases e), (fun _ _ e => by cases e), (fun _ e => by cases e), (fun _ e => by cases e; exact ⟨es, hk, .inl (by simp; omega)⟩)⟩ (fun hs => by
                        refine .inr ⟨_, ty, by rw [updμ_same]; exact hc0, by rw [updμ_same]; exact setRow_heap w _ _ _ ty _ g1, by rw [updμ_same]; simpa using hfit, ?_, fun j d v hd hv => ?_⟩
                        · rw [updμ_same]
                          simp only [List.size_toArray, List.length_append, hvs, List.length_drop, Array.length_toList]
                          omega
                        · have := cells_join (μ := μ) (L := L) (w := w) (T := Tot M μ L) (zs := vs.toList.drop (es.length + xs.length)) hvs hxl (fun i d v hd hv => by
                            rw [List.getElem?_take, if_pos (getE_lt hd)] at hv
                            exact g5 i d v hd (by simpa using hv)) hxr j d v hd (by simpa using hv)
                          exact this.stp hs (unders_iff.1 hau j d hd))
                    refine .val (run _ _ (by rw [hxx]; exact hr)) ⟨_, _, _, hK, hr', hrv _ (μ k) _ (.inr ⟨hc0, ?_⟩) ⟨_, _, by rw [List.length_append, ← hn], fun _ => rfl⟩, hbelow, hs⟩
                    simp [hn]
              · -- a new array
                have hcap : (μ k).cap < es.length + ds.length := by omega
                obtain ⟨f1, f2⟩ := app_fit (cap := (μ k).cap) hbg' hb4 hcap
                have hold : ∃ (ad : Option Addr) (olds : List Value), a.eval x = .slice ad es.length (μ k).cap ∧ (Builtin.firstCells i.size es.length (.slice ad es.length (μ k).cap)).run P w.drew = .ok olds.toArray w.drew ∧ olds.length = es.length ∧
                    ∀ (i : Nat) d v, es[i]? = some d → olds[i]? = some v → RelV (Tot M μ L) w μ L d v := by
                  rcases hbuf with ⟨hc0, h0, ad, hxx⟩ | ⟨hc0, hxx⟩
                  · have hee : es = [] := List.length_eq_zero_iff.1 (by omega)
                    subst hee
                    refine ⟨ad, [], by rw [hxx, hc0]; rfl, ?_, rfl, fun i d v hd _ => by simp at hd⟩
                    cases ad <;> simp [Builtin.firstCells, loadCells, loadCellsFrom]
                  · rcases h.obj k _ hk with ⟨g0, _⟩ | ⟨vs, ty, g0, g1, g2, g3, g5⟩
                    · exact absurd g0 hc0
                    · obtain ⟨q1, q2⟩ := take_list vs (n := es.length) (by omega)
                      refine ⟨some ⟨(μ k).blk, 0, none⟩, _, by rw [hxx, hn], ?_, q1, fun i d v hd hv => ?_⟩
                      · simp only [Builtin.firstCells]
                        rw [hsz]
                        exact cells_load g1 (by omega) w.drew rfl
                      · rw [q2 i (getE_lt hd)] at hv
                        exact g5 i d v hd hv
                obtain ⟨ad, olds, hxx, hfo, hol, hor⟩ := hold
                have hr := run_append_more (P := P) (w := w) t t2 o.type e i v0 hu e2 ht2 hi hv0 ad es.length (μ k).cap ds.length (a.eval y) olds.toArray _ hlen hfo (hfc w.drew rfl) hcap f1 (by rw [hby]; exact f2)
                have hge := grown_ge (w := w) (es.length + ds.length) (μ k).cap e
                have hold' : ∀ b, b < w.heap.size → (w.drew.alloc (.cells (olds.toArray ++ xs.toArray ++ Builtin.zeroCells v0.cells (grownCap w (es.length + ds.length) (μ k).cap e - (es.length + ds.length))) e)).heap[b]? = w.heap[b]? := fun b hb => heap_push_old w.drew _ hb
                obtain ⟨hs, hr'⟩ := h.upd (L' := L.put k (.row (es ++ ds))) (w' := w.drew.alloc (.cells (olds.toArray ++ xs.toArray ++ Builtin.zeroCells v0.cells (grownCap w (es.length + ds.length) (μ k).cap e - (es.length + ds.length))) e)) k (.row (es ++ ds)) ⟨w.heap.size, grownCap w (es.length + ds.length) (μ k).cap e⟩
                  (DH.put_same L k _) (fun j hj => DH.put_ne L _ hj) (Nat.le_refl _) rfl rfl hkn hau rfl rfl rfl (by simp) (fun b hb _ => hold' b hb) (fun j ob _ hj hl => hold' _ (h.live j ob hj hl).1)
                  (fun _ => .inr ⟨Nat.le_refl _, by simp⟩) (fun _ => ⟨(fun _ e => by cases e), (fun _ e => by cases e), (fun _ _ e => by cases e), (fun _ e => by cases e), (fun _ e => by cases e; exact ⟨es, hk, .inl (by simp; omega)⟩)⟩) (fun hs => by
                    refine .inr ⟨_, e, by rw [updμ_same]; simp only; omega, by rw [updμ_same]; exact heap_push_new w.drew _, by rw [updμ_same]; simpa using hge, ?_, fun j d v hd hv => ?_⟩
                    · rw [updμ_same]
                      simp only [Array.size_append, List.size_toArray, size_zeroCells, hzs, hol, hxl]
                      omega
                    · have := cells_join (μ := μ) (L := L) (w := w) (T := Tot M μ L) (zs := (Builtin.zeroCells v0.cells (grownCap w (es.length + ds.length) (μ k).cap e - (es.length + ds.length))).toList) hol hxl hor hxr j d v hd (by
                        rw [← Array.getElem?_toList] at hv
                        simpa using hv)
                      exact this.stp hs (unders_iff.1 hau j d hd))
                refine .val (run _ _ (by rw [hxx]; exact hr)) ⟨_, _, _, hK, hr', hrv _ _ _ (.inr ⟨by simp only; omega, ?_⟩) ⟨_, _, by rw [List.length_append, ← hn], fun _ => ?_⟩, hbelow, hs⟩
                · simp
                · rfl
            all_goals exact hv.elim
        · exact hv.elim
end
end Go.Dv
