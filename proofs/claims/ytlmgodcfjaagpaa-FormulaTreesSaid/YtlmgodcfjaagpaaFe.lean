/- Formulas: compact, Sub, Compact, Size. -/
import Derived.Test.YtlmgodcfjaagpaaFd
set_option maxRecDepth 100000
set_option maxHeartbeats 4000000
namespace Go.Proofs.Ytlmgodcfjaagpaa
open Go Go.Dv

theorem cnt_nil : ∀ n, cnt [] n = n
  | 0 => rfl
  | n + 1 => by simp only [cnt, cnt_nil n, look]

theorem fm_compact (f : List Nd) (i : Nat) (hwf : Wf f) (hi : i < f.length) (hN : f.length ≤ 1000000) : PureFn Try.prog 61 [fpv f, .int .i64 (i : Int)] (fpv (canon f i)) := by
  refine PureFn.intro mixed (fn := Try.f61) rfl rfl rfl fun M w0 => ?_
  (try (conv => whnf)); repeat' (first | (apply And.intro <;> (try (conv => whnf))) | (intro h; first | (with_reducible exact tf0 h) | (with_reducible exact ft0 h) | (with_reducible exact nt0 h) | (with_reducible exact nf0 h) | (exact litz h rfl) | (with_reducible exact tf h (by with_reducible assumption)) | (with_reducible exact tf (by with_reducible assumption) h) | (try (conv => whnf))) | (with_reducible rfl) | (apply True.intro) | (apply infoT; rfl) | (apply bleI; rfl) | (apply fitI; rfl) | (apply cellsI; rfl) | (apply szI; rfl) | (apply guardI; kernel_rfl) | (apply WhenQ.mk; (try (conv => whnf)); rotate_left; (try (conv => whnf)); rotate_right) | (with_reducible assumption) | (apply not_of; with_reducible assumption) | (apply left_of; with_reducible assumption) | (apply left_of; apply left_of; with_reducible assumption) | (apply and_of <;> first | (with_reducible assumption) | (apply not_of; with_reducible assumption))| (refine lin_plan (by kernel_rfl) ?_; (try (conv => whnf))) | (refine ⟨_, _, rfl, idx_map (by with_reducible assumption), rfl, ?_⟩; (try (conv => whnf))) | (refine ⟨rfl, ?_⟩; (try (conv => whnf))) | fail)
  refine DC.wkIn (args' := [.pv (.int .i64 (i : Int)), .ref 5 0, .ref 0 0, .ref 6 0, .ref 3 0, .ref 1 0]) (nx := 8) (Hl := Hc f [] []) (finish_dc f hwf hN (i + 1) i ([], []) (by omega) hi ?_ M w0 _ _ (Nat.zero_le _) ?_) (by refine Wk.of ?_ ?_ rfl rfl rfl <;> (repeat' (first | (exact trivial) | (exact WkD.same _) | (exact WkO.same _ _ rfl) | (exact WkD.any _) | (refine WkD.int ?_) | (exact WkD.new' rfl rfl rfl) | (exact WkO.new _ _ rfl) | (refine WkO.vars rfl ?_) | (with_reducible rfl) | (exact rfl) | (refine ⟨?_, ?_⟩) | ((refine wrapA ?_ ?_ ?_); (focus (simp; done)); (focus ((try dsimp only); omega)); (focus ((try dsimp only); omega))) | fail))) (by show 7 ≤ 8; omega) ?_ rfl
  · show 0 + cnt [] f.length ≤ f.length
    rw [cnt_nil]; omega
  · (try (conv => whnf)); repeat' (first | (apply And.intro <;> (try (conv => whnf))) | (intro h; first | (with_reducible exact tf0 h) | (with_reducible exact ft0 h) | (with_reducible exact nt0 h) | (with_reducible exact nf0 h) | (exact litz h rfl) | (with_reducible exact tf h (by with_reducible assumption)) | (with_reducible exact tf (by with_reducible assumption) h) | (try (conv => whnf))) | (with_reducible rfl) | (apply True.intro) | (apply infoT; rfl) | (apply bleI; rfl) | (apply fitI; rfl) | (apply cellsI; rfl) | (apply szI; rfl) | (apply guardI; kernel_rfl) | (apply WhenQ.mk; (try (conv => whnf)); rotate_left; (try (conv => whnf)); rotate_right) | (with_reducible assumption) | (apply not_of; with_reducible assumption) | (apply left_of; with_reducible assumption) | (apply left_of; apply left_of; with_reducible assumption) | (apply and_of <;> first | (with_reducible assumption) | (apply not_of; with_reducible assumption))| (refine lin_plan (by kernel_rfl) ?_; (try (conv => whnf))) | (refine ⟨_, _, rfl, idx_map (by with_reducible assumption), rfl, ?_⟩; (try (conv => whnf))) | (refine ⟨rfl, ?_⟩; (try (conv => whnf))) | fail)
    exact PLe.refl _
  · exact ⟨.same _, .same _, .same _, .same _, .same _, .same _, trivial⟩
end Go.Proofs.Ytlmgodcfjaagpaa
