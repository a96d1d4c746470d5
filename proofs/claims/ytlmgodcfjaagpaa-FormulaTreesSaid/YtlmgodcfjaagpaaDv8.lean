/- The layer Dv, part 8: slices of slices, len, max, min; values that are built. -/
import Derived.Test.YtlmgodcfjaagpaaDv7
namespace Go.Dv
open Go.RowKit (Below)
section
variable {P : Program} {M : Nat → Prop} {w0 : World} {μ : Nat → Loc} {L : DH} {w : World} {a : Act} {ρ : Operand → DV} {K : DV → DH → Prop} {o : Oper} {dr : Bool}

theorem run_bound {x : Operand} {n y : Nat} {code : Go.BoundsCode} {d : DV} (hr : RelV (Tot M μ L) w μ L d (a.eval x)) (h : loOk (some d) n) (hle : n ≤ y) : (Instr.sliceBound (a.eval x) y code).run P w = .ok n w := by
  unfold loOk at h
  split at h
  · rename_i e; cases e
  · rename_i k m e
    cases e
    have := pvI hr
    rw [this, h]
    have h2 : (n : Int) ≤ (y : Int) := by omega
    simp [Instr.sliceBound, asIntOf, hle]
  · exact h.elim

theorem run_bounds {lo hi : Option Operand} {len cap x y : Nat} (hρ : Rho M μ L w ρ a) (hlo : loOk (lo.map ρ) x) (hhi : hiOk (hi.map ρ) y len) (hxy : x ≤ y) (hy : y ≤ cap) :
    (Instr.sliceBounds true len cap (lo.map a.eval) (hi.map a.eval) none).run P w = .ok (x, y, cap) w := by
  unfold Instr.sliceBounds
  cases hi with
  | none =>
    have hy' : y = len := by simpa [hiOk] using hhi
    subst hy'
    cases lo with
    | none =>
      have hx' : x = 0 := by simpa [loOk] using hlo
      subst hx'
      simp
    | some l =>
      have := run_bound (P := P) (code := .sliceB) (hρ.rel l) hlo hxy
      simp [this]
  | some g =>
    have hg : loOk (some (ρ g)) y := by
      simp only [Option.map_some] at hhi
      unfold hiOk at hhi
      unfold loOk
      split at hhi <;> simp_all
    have h1 := run_bound (P := P) (code := .sliceAcap) (hρ.rel g) hg hy
    cases lo with
    | none =>
      have hx' : x = 0 := by simpa [loOk] using hlo
      subst hx'
      simp [h1]
    | some l =>
      have := run_bound (P := P) (code := .sliceB) (hρ.rel l) hlo hxy
      simp [h1, this]

theorem res_slice {t : TypeId} {x : Operand} {lo hi mx : Option Operand} (ho : o.op = .slice t x lo hi mx) (h : HR M w0 μ L w) (hρ : Rho M μ L w ρ a) (hv : vcOp P M w0 dr ρ L o K) : OpRes P M w0 μ L w K o a := by
  have hx := hρ.rel x
  simp only [vcOp, ho] at hv
  cases he : elemT P t with
  | none => simp [he] at hv
  | some e =>
    have hu := run_elem he
    rw [he] at hv
    generalize hd : ρ x = d at hv hx
    have run : ∀ (ad : Option Addr) (len cap x' y : Nat), infoB P e = true → a.eval x = .slice ad len cap → loOk (lo.map ρ) x' → hiOk (hi.map ρ) y len → x' ≤ y → y ≤ cap → mx = none →
        (execOp a.eval o).run P w = .ok (.value (.slice (if cap = x' then ad else ad.map (·.add (x' * szOf P e))) (y - x') (cap - x'))) w := by
      intro ad len cap x' y hinf h1 h2 h3 h4 h5 h6
      obtain ⟨inf, hinf⟩ := Option.isSome_iff_exists.1 hinf
      subst h6
      have hb := run_bounds (P := P) hρ h2 h3 h4 h5
      simp [execOp, ho, Instr.sliceAt, run_underlying hu, Instr.slice, h1, hb, run_szOf hinf]
    split at hv
    · rename_i _ _ e' l e1
      obtain rfl := Option.some.inj e1
      obtain ⟨hinf, hc, x', y, h1, h2, h3, h4, hv⟩ := hv
      cases hx with
      | pv _ _ hx =>
        generalize hlx : PV.sl l = pl at hx
        generalize hvx : a.eval x = vx at hx
        cases hx with
        | sl b off sz cap l' val g1 g2 g3 g4 g5 g6 =>
          obtain rfl : l = l' := by cases hlx; rfl
          refine .val (run _ _ _ x' y hinf hvx h1 h2 h3 (by omega) rfl) (Out.id h ?_ rfl hv)
          refine .pv _ _ ?_
          by_cases hxy : x' = y
          · have : (l.drop x').take (y - x') = [] := by subst hxy; simp
            rw [this, show y - x' = 0 by omega]
            exact .e0 _ _
          · have hcx : ¬ cap = x' := by omega
            rw [if_neg hcx]
            simp only [Option.map_some, add_none]
            have hlt : x' < l.length := by omega
            have hsz : sz = szOf P e := by
              have hm := List.getElem_mem (l := l) hlt
              have := List.all_eq_true.1 hc _ hm
              simp only [Bool.and_eq_true] at this
              rw [← g4 _ hm]; exact beq_of this.1
            have hlen : ((l.drop x').take (y - x')).length = y - x' := by simp; omega
            have hh : RelP (Tot M μ L) w (.sl ((l.drop x').take (y - x'))) (.slice (some ⟨b, off + x' * szOf P e, none⟩) ((l.drop x').take (y - x')).length (cap - x')) := by
              refine .sl b (off + x' * szOf P e) sz (cap - x') _ (fun i j => val (x' + i) j) g1 g2 (by rw [hlen]; omega) (fun p hp => g4 p (List.mem_of_mem_drop (List.mem_of_mem_take hp))) (fun i p j q hp hq => ?_) (fun i p j q hp hq => ?_)
              all_goals
                rw [List.getElem?_take] at hp
                split at hp
                case isFalse => cases hp
                rw [List.getElem?_drop] at hp
              · have := g5 (x' + i) p j q hp hq
                rw [← this, hsz, Nat.add_mul]
                congr 2
                omega
              · exact g6 (x' + i) p j q hp hq
            rw [hlen] at hh
            exact hh
        | e0 a' c =>
          cases hlx
          have hy : y = 0 := by simpa using h4
          have hx0 : x' = 0 := by omega
          subst hy; subst hx0
          refine .val (run _ _ _ 0 0 hinf hvx h1 h2 (by omega) (by omega) rfl) (Out.id h ?_ rfl hv)
          exact .pv _ _ (.e0 _ _)
        | _ => cases hlx
    · rename_i _ _ e' e1
      obtain rfl := Option.some.inj e1
      obtain ⟨hinf, x', y, h1, h2, h3, h4, hv⟩ := hv
      subst h3; subst h4
      have hvx := pvN hx
      have hr := run _ _ _ 0 0 hinf hvx h1 h2 (by omega) (by omega) rfl
      simp at hr
      exact .val hr (Out.id h (.pv _ _ .nil) rfl hv)
    · exact hv.elim

theorem run_bi {c : Call} {b : Builtin} (ho : o.op = .call c) (hc : c.callee = .builtin b) :
    execOp a.eval o = builtin b c.argTypes o.type (c.args.map fun | .const _ => true | _ => false) (c.args.map a.eval) := by
  simp only [execOp, ho, resolve, hc, pure_bind, invoke]
  rfl

theorem args_two {xs : Array Operand} {d1 d2 : DV} (h : xs.toList.map ρ = [d1, d2]) : ∃ x y, xs = #[x, y] ∧ ρ x = d1 ∧ ρ y = d2 := by
  obtain ⟨l⟩ := xs
  rcases l with _ | ⟨x, _ | ⟨y, _ | ⟨z, r⟩⟩⟩ <;> simp at h
  exact ⟨x, y, rfl, h.1, h.2⟩
theorem args_one {xs : Array Operand} {d1 : DV} (h : xs.toList.map ρ = [d1]) : ∃ x, xs = #[x] ∧ ρ x = d1 := by
  obtain ⟨l⟩ := xs
  rcases l with _ | ⟨x, _ | ⟨y, r⟩⟩ <;> simp at h
  exact ⟨x, rfl, h⟩
theorem ty_two {xs : Array TypeId} {d1 d2 : TypeId} (h : xs.toList = [d1, d2]) : xs = #[d1, d2] := by
  obtain ⟨l⟩ := xs; simp at h; subst h; rfl
theorem ty_one {xs : Array TypeId} {d1 : TypeId} {r : List TypeId} (h : xs.toList = d1 :: r) : xs[0]? = some d1 := by
  obtain ⟨l⟩ := xs; simp at h; subst h; rfl

theorem res_len {c : Call} {d : DV} (ho : o.op = .call c) (hc : c.callee = .builtin .len) (ha : c.args.toList.map ρ = [d]) (h : HR M w0 μ L w) (hρ : Rho M μ L w ρ a)
    (hv : vcBuiltin P .len c.argTypes.toList [d] L K) : OpRes P M w0 μ L w K o a := by
  obtain ⟨x, hx, rfl⟩ := args_one ha
  have hr := hρ.rel x
  simp only [vcBuiltin] at hv
  split at hv
  · rename_i t r ht
    have ht' := ty_one ht
    have run : ∀ (n : Nat), (Builtin.len_ c.argTypes o.type #[a.eval x]).run P w = .ok (goInt n) w → K (.pv (.int .i64 n)) L → OpRes P M w0 μ L w K o a := by
      intro n hn hk
      refine .val (v := .int .i64 n) (w' := w) ?_ (Out.id h (relI _ _ _) rfl hk)
      rw [run_bi ho hc, hx]
      simp [builtin, hn, goInt]
    have lenS : ∀ e ad n cap, P.underlying t = some (.slice e) → a.eval x = .slice ad n cap → (Builtin.len_ c.argTypes o.type #[a.eval x]).run P w = .ok (goInt n) w := by
      intro e ad n cap hu hx
      simp [Builtin.len_, ht', hx, run_underlying hu]
    split at hv
    · rename_i e1 e2 e3
      rw [e3] at hr
      exact run 0 (lenS _ _ 0 _ e2 (pvN hr)) hv
    · rename_i e1 e2 e3
      rw [e3] at hr
      generalize hxx : a.eval x = vx at hr
      cases hr
      exact run 0 (lenS _ _ 0 _ e2 hxx) hv
    · rename_i e1 l e2 e3
      rw [e3] at hr
      generalize hxx : a.eval x = vx at hr
      cases hr with
      | pv _ _ hp =>
        generalize hlx : PV.sl l = pl at hp
        cases hp with
        | sl b off sz cap l' val g1 g2 g3 g4 g5 g6 =>
          obtain rfl : l = l' := by cases hlx; rfl
          exact run _ (lenS _ _ _ _ e2 hxx) hv
        | e0 a' c' => cases hlx; exact run 0 (lenS _ _ 0 _ e2 hxx) hv
        | _ => cases hlx
    · rename_i e1 k n e2 e3
      rw [e3] at hr
      generalize hxx : a.eval x = vx at hr
      cases hr with
      | buf _ _ _ g1 g2 g3 =>
        obtain ⟨ad, cap, rfl⟩ := g1
        exact run n (lenS _ _ _ _ e2 hxx) hv
    · rename_i s e2 e3
      rw [e3] at hr
      refine run _ ?_ hv
      simp [Builtin.len_, ht', pvS hr, run_underlying e2]
    · exact hv.elim
  · exact hv.elim

theorem res_max {c : Call} {d1 d2 : DV} (ho : o.op = .call c) (hc : c.callee = .builtin .max) (ha : c.args.toList.map ρ = [d1, d2]) (h : HR M w0 μ L w) (hρ : Rho M μ L w ρ a)
    (hv : vcBuiltin P .max c.argTypes.toList [d1, d2] L K) : OpRes P M w0 μ L w K o a := by
  obtain ⟨x, y, hx, h1, h2⟩ := args_two ha
  have hr := hρ.rel x
  have hs := hρ.rel y
  rw [h1] at hr
  rw [h2] at hs
  cases d1 <;> cases d2 <;> try (simp [vcBuiltin] at hv; done)
  rename_i p q
  cases p <;> cases q <;> try (simp [vcBuiltin] at hv; done)
  rename_i k a' k' b'
  simp only [vcBuiltin] at hv
  cases hk : decide (k = k') with
  | false => simp [hk] at hv
  | true =>
    simp only [hk] at hv
    refine .val (v := .int k (max a' b')) (w' := w) ?_ (Out.id h (relI _ _ _) rfl hv)
    rw [run_bi ho hc, hx]
    simp [builtin, Builtin.max_, pvI hr, pvI hs, Builtin.max2]
    omega
theorem res_min {c : Call} {d1 d2 : DV} (ho : o.op = .call c) (hc : c.callee = .builtin .min) (ha : c.args.toList.map ρ = [d1, d2]) (h : HR M w0 μ L w) (hρ : Rho M μ L w ρ a)
    (hv : vcBuiltin P .min c.argTypes.toList [d1, d2] L K) : OpRes P M w0 μ L w K o a := by
  obtain ⟨x, y, hx, h1, h2⟩ := args_two ha
  have hr := hρ.rel x
  have hs := hρ.rel y
  rw [h1] at hr
  rw [h2] at hs
  cases d1 <;> cases d2 <;> try (simp [vcBuiltin] at hv; done)
  rename_i p q
  cases p <;> cases q <;> try (simp [vcBuiltin] at hv; done)
  rename_i k a' k' b'
  simp only [vcBuiltin] at hv
  cases hk : decide (k = k') with
  | false => simp [hk] at hv
  | true =>
    simp only [hk] at hv
    refine .val (v := .int k (min a' b')) (w' := w) ?_ (Out.id h (relI _ _ _) rfl hv)
    rw [run_bi ho hc, hx]
    simp [builtin, Builtin.min_, pvI hr, pvI hs, Builtin.min2]
    omega
end
end Go.Dv
