/- The layer Dv, part 7: what the model's operations do: the simple ones. -/
import Derived.Test.YtlmgodcfjaagpaaDv6
namespace Go.Dv
open Go.RowKit (Below)
section
variable {P : Program} {M : Nat → Prop} {w0 : World} {μ : Nat → Loc} {L : DH} {w : World} {a : Act} {ρ : Operand → DV} {K : DV → DH → Prop} {o : Oper} {dr : Bool}

theorem pvI {T : Nat → Prop} {k : IntKind} {n : Int} {v : Value} (h : RelV T w μ L (.pv (.int k n)) v) : v = .int k n := by
  cases h with | pv _ _ h => cases h; rfl
theorem pvB {T : Nat → Prop} {b : Bool} {v : Value} (h : RelV T w μ L (.pv (.bool b)) v) : v = .bool b := by
  cases h with | pv _ _ h => cases h; rfl
theorem pvS {T : Nat → Prop} {s : ByteArray} {v : Value} (h : RelV T w μ L (.pv (.str s)) v) : v = .string s := by
  cases h with | pv _ _ h => cases h; rfl
theorem pvN {T : Nat → Prop} {v : Value} (h : RelV T w μ L (.pv .nil) v) : v = .slice none 0 0 := by
  cases h with | pv _ _ h => cases h; rfl
theorem relI (T : Nat → Prop) (k : IntKind) (n : Int) : RelV T w μ L (.pv (.int k n)) (.int k n) := .pv _ _ (.int k n)
theorem relB (T : Nat → Prop) (b : Bool) : RelV T w μ L (.pv (.bool b)) (.bool b) := .pv _ _ (.bool b)

theorem res_move {x : Operand} (ho : execOp a.eval o = pure (.value (a.eval x))) (h : HR M w0 μ L w) (hρ : Rho M μ L w ρ a) (hv : K (ρ x) L) : OpRes P M w0 μ L w K o a :=
  .val (by rw [ho]; rfl) (Out.id h (hρ.rel x) (hρ.und x) hv)

theorem pickV_ok {T : Nat → Prop} {t : Bool} {a b : DV} {va vb : Value} {K : DV → Prop} (ha : RelV T w μ L a va) (hb : RelV T w μ L b vb) (h : pickV t a b K) : ∃ x, K (.pv (.bool x)) ∧ (if t then va else vb) = .bool x := by
  have wh : ∀ {c : Bool} {x : Bool} {v : Value}, RelV T w μ L (.when c (.pv (.bool x))) v → c = true → v = .bool x := by
    intro c x v h hc
    cases h with
    | when _ _ _ h1 h2 => exact pvB (h1 hc)
  unfold pickV at h
  split at h
  · refine ⟨_, h, ?_⟩
    rw [pvB ha, pvB hb]
    cases t <;> rfl
  · refine ⟨_, h.2, ?_⟩
    rw [pvB hb]
    cases t
    · rfl
    · exact wh ha (h.1 rfl)
  · refine ⟨_, h.2, ?_⟩
    rw [pvB ha]
    cases t
    · exact wh hb (h.1 rfl)
    · rfl
  · refine ⟨_, h.2.2, ?_⟩
    cases t
    · exact wh hb (h.2.1 rfl)
    · exact wh ha (h.1 rfl)
  · exact h.elim

theorem res_pick {c x y : Operand} (ho : o.op = .pick c x y) (h : HR M w0 μ L w) (hρ : Rho M μ L w ρ a) (hv : vcOp P M w0 dr ρ L o K) : OpRes P M w0 μ L w K o a := by
  have hc := hρ.rel c
  have hx := hρ.rel x
  have hy := hρ.rel y
  have run : ∀ t, a.eval c = .bool t → (execOp a.eval o).run P w = .ok (.value (if t then a.eval x else a.eval y)) w := by
    intro t ht
    simp [execOp, ho, ht, asBool]
  have fin : ∀ t, a.eval c = .bool t → pickV t (ρ x) (ρ y) (fun d => K d L) → OpRes P M w0 μ L w K o a := by
    intro t ht hp
    obtain ⟨b, hK, hb⟩ := pickV_ok hx hy hp
    have := run t ht
    rw [hb] at this
    exact .val this (Out.id h (relB _ _) rfl hK)
  simp only [vcOp, ho] at hv
  split at hv
  · rename_i t e1
    rw [e1] at hc
    exact fin t (pvB hc) hv
  · rename_i c0 t e1
    rw [e1] at hc
    cases hc with
    | when _ _ _ h1 h2 => exact fin t (pvB (h1 hv.1)) hv.2
  · exact hv.elim

theorem res_nilCheck {x : Operand} (ho : o.op = .nilCheck x) (h : HR M w0 μ L w) (hρ : Rho M μ L w ρ a) (hv : vcOp P M w0 dr ρ L o K) : OpRes P M w0 μ L w K o a := by
  have hx := hρ.rel x
  have hxu := hρ.und x
  simp only [vcOp, ho] at hv
  have fin : K (ρ x) L → (execOp a.eval o).run P w = .ok (.value (a.eval x)) w → OpRes P M w0 μ L w K o a := fun hk hr => .val hr (Out.id h hx hxu hk)
  have ptr : ∀ ad, a.eval x = .pointer (some ad) → (execOp a.eval o).run P w = .ok (.value (a.eval x)) w := by
    intro ad he
    simp [execOp, ho, he]
  -- a pointer into the heap may stand for anything if its object is gone: then the check is not let
  generalize hd : ρ x = d at hv fin hx
  cases d with
  | ref k c =>
    simp only at hv
    cases hk : L.get k with
    | none => simp [hk] at hv
    | some ob =>
      cases ob <;> simp only [hk] at hv
      case var cs =>
        cases hx with
        | ref _ _ _ g1 g2 => exact fin hv (ptr _ (g2 cs hk))
  | eptr p c =>
    simp only at hv
    cases he : a.eval x
    all_goals rw [he] at hx
    all_goals cases hx
    exact fin hv (ptr _ he)
  | clo f a' b =>
    simp only at hv
    cases he : a.eval x
    all_goals rw [he] at hx
    all_goals cases hx
    refine fin hv ?_
    simp [execOp, ho, he]
  | _ => simp at hv

theorem res_unOp {op : UnOp} {t : TypeId} {x : Operand} (ho : o.op = .unOp op t x) (h : HR M w0 μ L w) (hρ : Rho M μ L w ρ a) (hv : vcOp P M w0 dr ρ L o K) : OpRes P M w0 μ L w K o a := by
  have hx := hρ.rel x
  simp only [vcOp, ho] at hv
  split at hv
  · rename_i b e1
    rw [e1] at hx
    exact .val (v := .bool !b) (w' := w) (by simp [execOp, ho, pvB hx, Op.unary]) (Out.id h (relB _ _) rfl hv)
  · rename_i k n e1
    rw [e1] at hx
    exact .val (v := .int k (k.wrap (0 - n))) (w' := w) (by simp [execOp, ho, pvI hx, Op.unary, Op.intArith]) (Out.id h (relI _ _ _) rfl hv)
  · rename_i k n e1
    rw [e1] at hx
    exact .val (v := .int k (k.wrap ((BitVec.ofInt k.bits (if k.signed then -1 else k.max) ^^^ BitVec.ofInt k.bits n).toNat : Int))) (w' := w) (by simp only [execOp, ho, pvI hx, Op.unary, Op.intBits]; rfl) (Out.id h (relI _ _ _) rfl hv)
  · exact hv.elim

theorem res_convert {s d : TypeId} {x : Operand} (ho : o.op = .convert s d x) (h : HR M w0 μ L w) (hρ : Rho M μ L w ρ a) (hv : vcOp P M w0 dr ρ L o K) : OpRes P M w0 μ L w K o a := by
  have hx := hρ.rel x
  simp only [vcOp, ho] at hv
  split at hv
  · rename_i k1 k k2 n e1 e2 e3
    rw [e3] at hx
    exact .val (v := .int k (k.wrap n)) (w' := w) (by simp [execOp, ho, pvI hx, convert, run_underlying e1, run_underlying e2, Conv.intToInt]) (Out.id h (relI _ _ _) rfl hv)
  · rename_i k1 k2 n e1 e2 e3
    rw [e3] at hx
    exact .val (v := .string (Utf8.encode n)) (w' := w) (by simp [execOp, ho, pvI hx, convert, run_underlying e1, run_underlying e2, Conv.intToString]) (Out.id h (.pv _ _ (.str _)) rfl hv)
  · exact hv.elim

theorem map_rel (hρ : Rho M μ L w ρ a) (xs : Array Operand) : (xs.toList.map ρ).length = (xs.map a.eval).toList.length ∧
    (∀ (i : Nat) d v, (xs.toList.map ρ)[i]? = some d → (xs.map a.eval).toList[i]? = some v → RelV (Tot M μ L) w μ L d v) ∧ DV.unders L.next (xs.toList.map ρ) = true := by
  refine ⟨by simp, fun i d v hd hv => ?_, ?_⟩
  · simp only [List.getElem?_map, Array.toList_map] at hd hv
    cases hx : xs.toList[i]? with
    | none => simp [hx] at hd
    | some x => simp [hx] at hd hv; subst hd; subst hv; exact hρ.rel x
  · rw [unders_mem]
    intro d hd
    obtain ⟨x, _, rfl⟩ := List.mem_map.1 hd
    exact hρ.und x

theorem res_makeFunc {fn : Fn} {x y : Array Operand} (ho : o.op = .makeFunc fn x y) (h : HR M w0 μ L w) (hρ : Rho M μ L w ρ a) (hv : vcOp P M w0 dr ρ L o K) : OpRes P M w0 μ L w K o a := by
  simp only [vcOp, ho] at hv
  cases fn with
  | func f =>
    obtain ⟨a1, a2, a3⟩ := map_rel hρ x
    obtain ⟨b1, b2, b3⟩ := map_rel hρ y
    refine .val (v := .func (.func f) (x.map a.eval) (y.map a.eval)) (w' := w) (by simp [execOp, ho, Instr.makeFunc]) (Out.id h ?_ ?_ hv)
    · exact .clo f _ _ (x.map a.eval).toList (y.map a.eval).toList a1 b1 a2 b2
    · simp [DV.under, a3, b3]
  | _ => simp at hv

theorem res_makeMap {t : TypeId} {r : Option Operand} (ho : o.op = .makeMap t r) (h : HR M w0 μ L w) (hv : vcOp P M w0 dr ρ L o K) : OpRes P M w0 μ L w K o a := by
  simp only [vcOp, ho] at hv
  cases r with
  | some x => simp at hv
  | none =>
    simp only at hv
    obtain ⟨hs, hr⟩ := h.new (w1 := w) (.mp []) ⟨w.heap.size, 0⟩ (.map #[] 0) ⟨rfl, rfl, rfl, rfl⟩ rfl rfl (fun hs => ⟨#[], 0, by rw [updμ_same]; exact heap_push_new w _, rfl, fun i kv e hi _ => by simp at hi⟩)
    refine .val (v := .map (some w.heap.size)) (w' := w.alloc (.map #[] 0)) (by simp [execOp, ho, Instr.makeMap]) ⟨_, .mp L.next, _, hv, hr, .mp _ _ rfl fun es _ => by rw [updμ_same], ?_, hs⟩
    simp [DV.under, DH.push, Nat.blt_eq]

theorem res_extract {x : Operand} {i : Nat} (ho : o.op = .extract x i) (h : HR M w0 μ L w) (hρ : Rho M μ L w ρ a) (hv : vcOp P M w0 dr ρ L o K) : OpRes P M w0 μ L w K o a := by
  have hx := hρ.rel x
  have hxu := hρ.und x
  simp only [vcOp, ho] at hv
  generalize ρ x = d at hv hx hxu
  cases d with
  | tup l =>
    simp only at hv
    cases hl : l[i]? with
    | none => simp [hl] at hv
    | some d =>
      simp only [hl] at hv
      cases he : a.eval x
      all_goals rw [he] at hx
      all_goals cases hx
      rename_i vs h1 h2
      have hlt : i < vs.length := by have := getE_lt hl; omega
      have hvi : vs[i]? = some vs[i] := List.getElem?_eq_getElem hlt
      simp only [DV.under] at hxu
      exact .val (v := vs[i]) (w' := w) (by simp [execOp, ho, Instr.extract, he, hvi]) (Out.id h (h2 i d _ hl hvi) (unders_iff.1 hxu i d hl) hv)
  | _ => simp at hv

theorem run_field {s : TypeId} {f : Nat} {fd : Field} (h : fieldOf P s f = some fd) : ∃ fs, P.underlying s = some (.struct fs) ∧ fs[f]? = some fd := by
  unfold fieldOf at h
  cases hu : P.underlying s with
  | none => simp [hu] at h
  | some d =>
    cases d <;> simp [hu] at h
    exact ⟨_, rfl, by simpa using h⟩

theorem res_fieldAddr {s : TypeId} {x : Operand} {f : Nat} (ho : o.op = .fieldAddr s x f) (h : HR M w0 μ L w) (hρ : Rho M μ L w ρ a) (hv : vcOp P M w0 dr ρ L o K) : OpRes P M w0 μ L w K o a := by
  have hx := hρ.rel x
  have hxu := hρ.und x
  simp only [vcOp, ho] at hv
  cases hf : fieldOf P s f with
  | none => simp [hf] at hv
  | some fd =>
    obtain ⟨fs, hu, hfs⟩ := run_field hf
    simp only [hf] at hv
    generalize hz : Nat.beq (szOf P fd.type) 0 = z at hv
    cases z with
    | true => simp at hv
    | false =>
      have hsz : szOf P fd.type ≠ 0 := by intro e; rw [e] at hz; cases hz
      have hinfo : ∃ i, P.info? fd.type = some i := by
        unfold szOf Program.cellsOf at hsz
        cases hi : P.info? fd.type with
        | none => simp [hi] at hsz
        | some i => exact ⟨i, rfl⟩
      obtain ⟨i, hi⟩ := hinfo
      have run : ∀ b c, a.eval x = .pointer (some ⟨b, c, none⟩) → (execOp a.eval o).run P w = .ok (.value (.pointer (some ⟨b, c + fd.offset, none⟩))) w := by
        intro b c he
        simp [execOp, ho, Instr.fieldAt, run_underlying hu, hfs, he, Instr.sureAddr, fieldPlace, run_szOf hi, hsz, add_none]
      generalize hd : ρ x = d at hv hx hxu
      cases d with
      | ref k c =>
        simp only at hv
        cases hk : L.get k with
        | none => simp [hk] at hv
        | some ob =>
          cases ob <;> simp only [hk] at hv
          case var cs =>
            cases hx with
            | ref _ _ _ g1 g2 => exact .val (run _ _ (g2 cs hk)) (Out.id h (.ref _ _ _ rfl fun _ _ => rfl) (by simpa [DV.under] using hxu) hv)
      | aref k n i c =>
        simp only at hv
        cases hk : L.get k with
        | none => simp [hk] at hv
        | some ob =>
          cases ob <;> simp only [hk] at hv
          case arr sz es =>
            obtain ⟨hn, hin, hv⟩ := hv
            cases hx with
            | aref _ _ _ _ _ g1 g2 g3 =>
              have he := (g2 sz es hk).2 hn hin
              exact .val (run _ _ he) (Out.id h (.aref _ _ _ _ _ rfl (fun sz' es' hk' => by rw [hk] at hk'; cases hk'; exact ⟨by omega, fun _ _ => by rw [Nat.add_assoc]⟩) (fun es' hk' => by rw [hk] at hk'; cases hk')) (by simpa [DV.under] using hxu) hv)
      | eptr p c =>
        simp only at hv
        cases he : a.eval x
        all_goals rw [he] at hx
        all_goals cases hx
        rename_i b off val h1 h2 h3 h4
        refine .val (run _ _ he) (Out.id h ?_ rfl hv)
        rw [Nat.add_assoc]
        exact .eptr p _ b off val h1 h2 h3 h4
      | _ => simp at hv

theorem part_rel {T : Nat → Prop} {K : DV → Prop} {t : TypeId} {cs : List DV} {c : Nat} {vs : List Value} (hl : ldCells P t cs c K) (h1 : cs.length = vs.length)
    (h2 : ∀ (i : Nat) d v, cs[i]? = some d → vs[i]? = some v → RelV T w μ L d v) {n : Nat} (hu : DV.unders n cs = true) :
    ∃ d v, (part t ⟨vs⟩ c).run P w = .ok v w ∧ RelV T w μ L d v ∧ d.under n = true ∧ K d := by
  unfold ldCells at hl
  cases hk : kindT P t with
  | none => simp [hk] at hl
  | some g =>
    obtain ⟨i, hi⟩ := info_of_kind hk
    cases g with
    | true =>
      simp only [hk] at hl
      cases hb : Nat.ble (c + szOf P t) cs.length with
      | false => simp [hb] at hl
      | true =>
        simp only [hb] at hl
        have hb' : c + szOf P t ≤ cs.length := by simpa using hb
        refine ⟨_, .agg ⟨(vs.drop c).take (szOf P t)⟩, ?_, ?_, ?_, hl⟩
        · simp [part, run_isAgg_kind hk, run_szOf hi, List.extract_eq_take_drop]
        · refine .agg _ _ (by simp [h1]) fun j d v hd hv => ?_
          simp only [List.getElem?_take, List.getElem?_drop] at hd hv
          split at hd
          · rename_i g; rw [if_pos g] at hv; exact h2 _ _ _ hd hv
          · cases hd
        · simp only [DV.under]
          rw [unders_mem]
          intro d hd
          exact unders_mem.1 hu d (List.mem_of_mem_drop (List.mem_of_mem_take hd))
    | false =>
      simp only [hk] at hl
      cases hd : cs[c]? with
      | none => simp [hd] at hl
      | some d =>
        simp only [hd] at hl
        have hlt : c < vs.length := by have := getE_lt hd; omega
        have hvc : vs[c]? = some vs[c] := List.getElem?_eq_getElem hlt
        refine ⟨d, vs[c], ?_, h2 c d _ hd hvc, unders_iff.1 hu c d hd, hl⟩
        simp [part, run_isAgg_kind hk, hvc]

theorem res_field {s : TypeId} {x : Operand} {f : Nat} (ho : o.op = .field s x f) (h : HR M w0 μ L w) (hρ : Rho M μ L w ρ a) (hv : vcOp P M w0 dr ρ L o K) : OpRes P M w0 μ L w K o a := by
  have hx := hρ.rel x
  have hxu := hρ.und x
  simp only [vcOp, ho] at hv
  cases hf : fieldOf P s f with
  | none => simp [hf] at hv
  | some fd =>
    obtain ⟨fs, hu, hfs⟩ := run_field hf
    simp only [hf] at hv
    generalize ρ x = d at hv hx hxu
    cases d with
    | agg cs =>
      simp only at hv
      cases he : a.eval x
      all_goals rw [he] at hx
      all_goals cases hx
      rename_i vs h1 h2
      obtain ⟨d, v, hr, hrel, hun, hK⟩ := part_rel (P := P) hv h1 h2 (by simpa [DV.under] using hxu : DV.unders L.next cs = true)
      exact .val (v := v) (w' := w) (by simp [execOp, ho, Instr.field, run_underlying hu, hfs, he, asAgg, hr]) (Out.id h hrel hun hK)
    | _ => simp at hv

theorem run_elem {t e : TypeId} (h : elemT P t = some e) : P.underlying t = some (.slice e) := by
  unfold elemT at h
  cases hu : P.underlying t with
  | none => simp [hu] at h
  | some d => cases d <;> simp [hu] at h; rw [h]

theorem res_indexAddr {t : TypeId} {x i : Operand} (ho : o.op = .indexAddr t x i) (h : HR M w0 μ L w) (hρ : Rho M μ L w ρ a) (hv : vcOp P M w0 dr ρ L o K) : OpRes P M w0 μ L w K o a := by
  have hx := hρ.rel x
  have hi := hρ.rel i
  have hxu := hρ.und x
  simp only [vcOp, ho] at hv
  cases he : elemT P t with
  | none => simp [he] at hv
  | some e =>
    have hu := run_elem he
    have run : ∀ (k : IntKind) (n : Nat) (ad : Addr) (len cap : Nat), infoB P e = true → a.eval i = .int k (n : Int) → a.eval x = .slice (some ad) len cap → n < len →
        (execOp a.eval o).run P w = .ok (.value (.pointer (some (ad.add (n * szOf P e))))) w := by
      intro k n ad len cap hinf h1 h2 h3
      obtain ⟨inf, hinf⟩ := Option.isSome_iff_exists.1 hinf
      have h3' : (n : Int) < (len : Int) := by omega
      simp [execOp, ho, Instr.indexAt, h1, h2, asIntOf, run_underlying hu, run_szOf hinf, h3]
    rw [he] at hv
    generalize hd : ρ x = d at hv hx hxu
    generalize hdi : ρ i = di at hv hi
    split at hv
    · rename_i _ _ e' l k ix e1
      obtain rfl := Option.some.inj e1
      obtain ⟨hinf, n, p, hn, hp, hc, hv⟩ := hv
      have hiv := pvI hi
      rw [hn] at hiv
      cases hx with
      | pv _ _ hx =>
        have hlt := getE_lt hp
        generalize hlx : PV.sl l = pl at hx
        generalize hvx : a.eval x = vx at hx
        cases hx with
        | sl b off sz cap l' val h1 h2 h3 h4 h5 h6 =>
          obtain rfl : l = l' := by cases hlx; rfl
          have hsz : szOf P e = sz := by rw [← beq_of hc]; exact h4 p (List.mem_of_getElem? hp)
          have hr := run k n _ _ _ hinf hiv hvx hlt
          rw [add_none] at hr
          refine .val hr (Out.id h ?_ rfl hv)
          rw [hsz]
          exact .eptr p 0 b (off + n * sz) (fun j => val n j) h1 h2 (fun j q hj => h5 n p j q hp hj) (fun j q hj => h6 n p j q hp hj)
        | e0 a' c => cases hlx; simp at hp
        | _ => cases hlx
    · rename_i _ _ e' k n k' ix e1
      obtain rfl := Option.some.inj e1
      cases hk : L.get k with
      | none => simp [hk] at hv
      | some ob =>
        cases ob <;> simp only [hk] at hv
        case arr sz es =>
          generalize hc : (infoB P e && Nat.beq sz (szOf P e)) = c at hv
          cases c with
          | false => simp at hv
          | true =>
            simp only [Bool.and_eq_true] at hc
            obtain ⟨hn, m, hm, hmn, hv⟩ := hv
            have hiv := pvI hi
            rw [hm] at hiv
            cases hx with
            | buf _ _ _ g1 g2 g3 =>
              rcases (g2 sz es hk).2 hn with ⟨hc0, h0, _⟩ | ⟨hc0, he⟩
              · omega
              · have hr := run k' m _ _ _ hc.1 hiv he hmn
                rw [add_none] at hr
                refine .val hr (Out.id h ?_ (by simpa [DV.under] using hxu) hv)
                exact .aref k n m 0 _ rfl (fun sz' es' hk' => by rw [hk] at hk'; cases hk'; exact ⟨by omega, fun _ _ => by simp [← beq_of hc.2]⟩) (fun es' hk' => by rw [hk] at hk'; cases hk')
        case fz es =>
          obtain ⟨hinf, hn, m, p, hm, hp, hc, hv⟩ := hv
          have hiv := pvI hi
          rw [hm] at hiv
          have hlt := getE_lt hp
          have hrel := fz_relP h hk hx hn
          have hbuf : bufVal (μ k) n (a.eval x) := by
            cases hx with
            | buf _ _ _ g1 g2 g3 => exact (g3 es hk).2 hn
          rcases hbuf with ⟨hc0, h0, _⟩ | ⟨hc0, heq⟩
          · omega
          · rw [heq] at hrel
            rw [hn] at heq
            generalize hlx : PV.sl es = pl at hrel
            generalize hvx : Value.slice (some ⟨(μ k).blk, 0, none⟩) n (μ k).cap = vx at hrel
            cases hrel with
            | sl b off sz cap l' val h1 h2 h3 h4 h5 h6 =>
              obtain rfl : es = l' := by cases hlx; rfl
              obtain ⟨rfl, rfl⟩ : b = (μ k).blk ∧ off = 0 := by simp at hvx; exact ⟨hvx.1.1.symm, hvx.1.2.symm⟩
              have hsz : szOf P e = sz := by rw [← beq_of hc]; exact h4 p (List.mem_of_getElem? hp)
              have hr := run k' m _ _ _ hinf hiv heq hlt
              rw [add_none] at hr
              refine .val hr (Out.id h ?_ rfl hv)
              rw [hsz]
              exact .eptr p 0 _ (0 + m * sz) (fun j => val m j) h1 h2 (fun j q hj => h5 m p j q hp hj) (fun j q hj => h6 m p j q hp hj)
            | e0 a' c => cases hlx; simp at hp
            | _ => cases hlx
    · exact hv.elim
end
end Go.Dv
