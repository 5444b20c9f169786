/- The abstract machine, tenth part, continued: calls. -/
import Derived.Test.YtgihcmeifafnjaaCAbsSo
set_option linter.unusedVariables false
set_option linter.unusedSimpArgs false
namespace Go.Abs
open Go

def KOk (P : Program) (K : Kt) : Prop := ∀ f c, K f = some c → match c.srt with
  | none => CallOk P f c
  | some (k, ag) => SortOk P f k ag

theorem call_ok {P : Program} {K : Kt} (hK : KOk P K) {F : Fr} {g M w nx} (hM : MemOk F g M w) {f : FuncId} {ds : List D} {vs : List Value} {fid : Nat} (hl : vs.length = ds.length)
    (hr : ∀ (i : Nat) d u, ds[i]? = some d → vs[i]? = some u → Tv g (Ok F g M w) w d u) (h : semCall K F.np f ds M fid nx) :
    (callFunc f vs.toArray).run P w = .ok (.enter f vs.toArray) w ∧ Calls P f vs.toArray w fun e w' => ∃ v, e = .returned v ∧ SR F g M w nx v w' := by
  unfold semCall at h
  split at h
  · rename_i c hc
    have ok := hK f c hc
    have enter : (∃ fn, P.funcs[f]? = some fn ∧ fn.body.isNone = false ∧ (fn.name == "runtime.NumGoroutine") = false) → (callFunc f vs.toArray).run P w = .ok (.enter f vs.toArray) w := by
      rintro ⟨fn, h1, h2, h3⟩
      simp only [callFunc, Sem.run_bind, run_program, Result.andThen_ok, h1, h3, h2, Bool.false_eq_true, if_false, Sem.run_pure]
    split at h
    · rename_i k ag hs
      rw [hs] at ok
      simp only at ok
      refine ⟨enter ok.fn, ?_⟩
      split at h
      · rename_i x cmp
        match vs, hl with
        | [u, v], _ =>
          exact sort_ok (fun g c h1 h2 => by have := hK g c h1; rw [h2] at this; exact this) ok hM (hr 0 x u rfl rfl) (hr 1 cmp v rfl rfl) h
      · exact h.elim
    · rename_i hs
      rw [hs] at ok
      simp only at ok
      refine ⟨enter ok.fn, ?_⟩
      split at h
      · rename_i hcl
        obtain ⟨a, ha, hp, hn⟩ := h
        refine (ok.calls a hp w (fun b => b < w.heap.size) [] vs (argsV_ok hM (fun b hb => hb.1) (fun b hb => hb) ds _ vs ha hl hr) List.nodup_nil (by simp) (fun b hb => hb)).mono ?_
        rintro e w' ⟨v, r, rfl, hpost, hR⟩
        obtain ⟨hfree, hnx⟩ := hn r hpost
        have hio : r.io = [] := by
          obtain ⟨_, _, _, _, _, _, _, _, h, _⟩ := hR.ret
          simpa using h
        refine ⟨v, rfl, after_call (ids := []) hM hR List.nodup_nil rfl (by simp) (.inr ⟨ok.clean hcl a r hp hpost, hio⟩) hfree ?_⟩
        rw [hio]; exact hnx
      · obtain ⟨hnd, a, ha, hp, hn⟩ := h
        obtain ⟨f1, f2⟩ := frzA_ok ds hM
        obtain ⟨io, k1, k2, k3⟩ := argsF_ok f1 c.kinds ds _ vs ha hl (fun i d u hd hu => (hr i d u hd hu).mono f2)
        have hioM : ∀ b, b ∈ io → ∃ (k : Nat) (id : Nat) (cs : List D) (gi : GI), (ioIds c.kinds ds)[k]? = some id ∧ io[k]? = some b ∧ frzA F.np M ds id = some (.cells cs) ∧ g id = some gi ∧ gi.blk = b := by
          intro b hb
          obtain ⟨k, hk⟩ := List.getElem?_of_mem hb
          have hlt : k < io.length := by
            rcases Nat.lt_or_ge k io.length with h | h
            · exact h
            · simp [List.getElem?_eq_none h] at hk
          have hki : (ioIds c.kinds ds)[k]? = some (ioIds c.kinds ds)[k] := List.getElem?_eq_getElem (by omega)
          obtain ⟨cs, gi, q1, q2, q3⟩ := k3 k _ b hki hk
          exact ⟨k, _, cs, gi, hki, hk, q1, q2, q3⟩
        have hlive : ∀ {id : Nat} {cs : List D} {gi : GI}, frzA F.np M ds id = some (.cells cs) → g id = some gi → gi.live = true := by
          intro id cs gi hm hg
          obtain ⟨gi', hg', hE⟩ := f1.ent id _ hm
          rw [hg] at hg'; cases hg'
          exact hE.1
        refine (ok.calls a hp w (Ok F g (frzA F.np M ds) w) io vs k1 ?_ (fun b hb => ?_) (fun b hb => hb.1)).mono ?_
        · refine List.pairwise_iff_getElem.2 fun i j hi hj hij he => ?_
          obtain ⟨cs, gi, q1, q2, q3⟩ := k3 i _ _ (List.getElem?_eq_getElem (by omega)) (List.getElem?_eq_getElem hi)
          obtain ⟨cs', gi', r1, r2, r3⟩ := k3 j _ _ (List.getElem?_eq_getElem (by omega)) (List.getElem?_eq_getElem hj)
          have hne := List.pairwise_iff_getElem.1 hnd i j (by omega) (by omega) hij
          have := f1.inj _ _ _ _ gi gi' hne q1 r1 rfl rfl q2 r2 (hlive q1 q2) (hlive r1 r2)
          rw [q3, r3] at this
          exact this he
        · obtain ⟨k, id, cs, gi, _, _, q1, q2, q3⟩ := hioM b hb
          have := f1.lo id _ gi q1 rfl q2 (hlive q1 q2)
          rw [q3] at this
          exact ⟨this.1, fun hok => hok.2.2 id _ gi q1 rfl q2 (hlive q1 q2) q3⟩
        rintro e w' ⟨v, r, rfl, hpost, hR⟩
        obtain ⟨hfree, hnx⟩ := hn r hpost
        have := after_call (ids := ioIds c.kinds ds) f1 hR hnd k2.symm (fun k id b h1 h2 => k3 k id b h1 h2) (.inl fun b hb => hb) (fun j hj => frzA_none ds (hfree j hj)) hnx
        exact ⟨v, rfl, SR.then f1 f2 this⟩
  · exact h.elim

end Go.Abs
