/- The framework's rule for a function. Conditions: none. -/
import Derived.Test.YtdhgdpcmdmgchaaGreatFwO
namespace Go.Proofs.YtdhgdpcmdmgchaaGreat.Fw
open Go
set_option linter.unusedSimpArgs false
set_option linter.unusedVariables false

section
variable {P : Program} {T : Tab}

theorem mutAt_lt : ∀ {args : List Arg} {j i m : Nat}, mutAt j args = some (i, m) → i < j + args.length
  | .lf _ :: as, j, i, m, h => by have := mutAt_lt (args := as) h; simp; omega
  | .ag _ :: as, j, i, m, h => by have := mutAt_lt (args := as) h; simp; omega
  | .mt sz n cs :: as, j, i, m, h => by simp [mutAt] at h; simp; omega

/-- A function whose code is walked keeps its contract. -/
theorem ok_of_pw (hT : TabOk P T) (hm : P.follows .mixedOrders = true) {f : Nat} {fn : Func} {code : Code} (hf : P.funcs[f]? = some fn) (hb : fn.body = some code) (hname : (fn.name == "runtime.NumGoroutine") = false)
    {args : List Arg} {res : Res} (hn : args.length ≤ fn.ntmps) (h100 : args.length ≤ 100) (hone : mts args ≤ 1) (hc : chk T fn.ntmps code = true)
    (h : pw P T code (start args) (Rets T fn.results.toList (mutAt 0 args) res) (fun e s => match e with | .ret => Rets T fn.results.toList (mutAt 0 args) res s | _ => False)) : Ok P f args res := by
  refine ⟨⟨fn, hf, by simp [hb], hname⟩, fun w im vs segs himlt hargs => ?_⟩
  obtain ⟨par, hp, hmut⟩ := start_ok hargs 0 hone (by omega)
  have hs := sim_start himlt hp hn
  have ok : CtxOk { w0 := w, im0 := im, par, segs, nt := fn.ntmps } := by
    refine ⟨fun i p hi => by have := hp.dom i p hi; omega, fun g hg g' hg' _ => ?_, fun g hg => ?_⟩
    · rcases hp.segs with e | ⟨g0, cur, e', e, hc⟩
      · simp only at hg; rw [e] at hg; simp at hg
      · simp only at hg hg'; rw [e] at hg hg'; simp at hg hg'; rw [hg, hg']
    · rcases hp.segs with e | ⟨g0, cur, e', e, hc⟩
      · simp only at hg; rw [e] at hg; simp at hg
      · simp only at hg; rw [e] at hg; simp at hg; rw [hg]; exact (Array.getElem?_eq_some_iff.1 hc).1
  refine calls_of_wp hf hb (wp_mono (pw_sound hT ok hm code hc _ _ _ _ _ h ⟨_, _, hs⟩) fun e a w' hq => ?_)
  cases e with
  | normal => obtain ⟨s, h1, h2⟩ := hq; exact ends_of hT ok h2 h1 hmut rfl
  | ret => obtain ⟨s, h1, h2⟩ := hq; exact ends_of hT ok h2 h1 hmut rfl
  | exit id => obtain ⟨s, h1, h2⟩ := hq; exact h1.elim
  | goto l => exact hq.elim
  | panic ch => exact hq.elim
  | outgrown => exact hq.elim

end
end Go.Proofs.YtdhgdpcmdmgchaaGreat.Fw
