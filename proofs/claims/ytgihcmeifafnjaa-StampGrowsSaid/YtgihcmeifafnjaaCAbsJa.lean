/- The abstract machine, tenth part: every operation; regions; code. -/
import Derived.Test.YtgihcmeifafnjaaCAbsI
set_option linter.unusedVariables false
set_option linter.unusedSimpArgs false
namespace Go.Abs
open Go

abbrev Kt := FuncId → Option Con

theorem argsV_ok {F : Fr} {g M w} (hM : MemOk F g M w) {A : Nat → Prop} (hA : ∀ b, Ok F g M w b → A b) (hx : ∀ b, b < w.heap.size → A b) : ∀ (ds : List D) (as : List AD) (vs : List Value),
    (mapO (fz M true 4) ds).map (·.map .d) = some as → vs.length = ds.length → (∀ (i : Nat) d u, ds[i]? = some d → vs[i]? = some u → Tv g (Ok F g M w) w d u) → ArgsOk A w as vs []
  | [], as, vs, h, hl, _ => by
    simp [mapO] at h; subst h
    cases vs with
    | nil => exact .nil
    | cons => simp at hl
  | d :: ds, as, [], h, hl, _ => by simp at hl
  | d :: ds, as, v :: vs, h, hl, hr => by
    simp only [mapO] at h
    split at h
    · rename_i y l h1 h2
      simp only [Option.map_some, List.map_cons, Option.some.injEq] at h; subst h
      refine .d y v _ vs [] ?_ (argsV_ok hM hA hx ds _ vs (by rw [h2]; rfl) (by simpa using hl) fun i d u hd hu => hr (i + 1) d u (by simpa using hd) (by simpa using hu))
      have hv := hr 0 d v rfl rfl
      cases hv with
      | c _ _ hc => exact .c _ _ (.c _ _ (fz_ok hM hA (fun _ => hx) 4 hc.isCell hc h1))
      | agg cs us hl' hr' =>
        simp only [fz] at h1
        split at h1
        · rename_i cs' hcs
          cases h1
          refine .agg _ _ (by rw [hl', mapO_length hcs]) fun i d u hd hu => ?_
          obtain ⟨x, hx1, hx2⟩ := mapO_get hcs hd
          have ht := hr' i x u hx1 hu
          exact .c _ _ (fz_ok hM hA (fun _ => hx) 3 ht.isCell ht hx2)
        · simp at h1
      | tup => simp [fz, fz0] at h1
      | junk => simp [fz, fz0] at h1
    · simp at h

theorem argsF_ok {F : Fr} {g M w} (hM : MemOk F g M w) : ∀ (ks : List Bool) (ds : List D) (as : List AD) (vs : List Value),
    argsF M ks ds = some as → vs.length = ds.length → (∀ (i : Nat) d u, ds[i]? = some d → vs[i]? = some u → Tv g (Ok F g M w) w d u) →
    ∃ io, ArgsOk (Ok F g M w) w as vs io ∧ io.length = (ioIds ks ds).length ∧ ∀ (k : Nat) id b, (ioIds ks ds)[k]? = some id → io[k]? = some b → ∃ cs gi, M id = some (.cells cs) ∧ g id = some gi ∧ gi.blk = b
  | ks, [], as, vs, h, hl, _ => by
    simp [argsF] at h; subst h
    cases vs with
    | nil => exact ⟨[], .nil, by cases ks <;> simp [ioIds], by simp⟩
    | cons => simp at hl
  | ks, d :: ds, as, [], h, hl, _ => by simp at hl
  | ks, d :: ds, as, v :: vs, h, hl, hr => by
    have hv := hr 0 d v rfl rfl
    have hr' : ∀ (i : Nat) d u, ds[i]? = some d → vs[i]? = some u → Tv g (Ok F g M w) w d u := fun i d u hd hu => hr (i + 1) d u (by simpa using hd) (by simpa using hu)
    -- by value
    have byVal : ∀ (ks' : List Bool), consAD ((fz M false 1 d).map .d) (argsF M ks' ds) = some as → ioIds ks (d :: ds) = ioIds ks' ds →
        ∃ io, ArgsOk (Ok F g M w) w as (v :: vs) io ∧ io.length = (ioIds ks (d :: ds)).length ∧ ∀ (k : Nat) id b, (ioIds ks (d :: ds))[k]? = some id → io[k]? = some b → ∃ cs gi, M id = some (.cells cs) ∧ g id = some gi ∧ gi.blk = b := by
      intro ks' h he
      unfold consAD at h
      split at h
      · rename_i q r h1' h2
        cases h
        obtain ⟨d', h1, rfl⟩ := Option.map_eq_some_iff.1 h1'
        obtain ⟨io, k1, k2, k3⟩ := argsF_ok hM ks' ds r vs h2 (by simpa using hl) hr'
        refine ⟨io, .d d' v r vs io ?_ k1, by rw [he]; exact k2, by rw [he]; exact k3⟩
        cases hv with
        | c _ _ hc => exact .c _ _ (.c _ _ (fz_ok hM (fun _ h => h) (fun h => by simp at h) 1 hc.isCell hc h1))
        | agg cs us hl' hra =>
          simp only [fz] at h1
          split at h1
          · rename_i cs' hcs
            cases h1
            refine .agg _ _ (by rw [hl', mapO_length hcs]) fun i d u hd hu => ?_
            obtain ⟨x, hx1, hx2⟩ := mapO_get hcs hd
            have ht := hra i x u hx1 hu
            exact .c _ _ (fz_ok hM (fun _ h => h) (fun h => by simp at h) 0 ht.isCell ht hx2)
          · simp at h1
        | tup => simp [fz, fz0] at h1
        | junk => simp [fz, fz0] at h1
      · simp at h
    match ks, d with
    | true :: ks', .box id 0 =>
      simp only [argsF, consAD] at h
      split at h
      · rename_i q r h1' h2
        cases h
        unfold ioArg at h1'
        split at h1'
        · rename_i cs hm
          obtain ⟨cs', h1, rfl⟩ := Option.map_eq_some_iff.1 h1'
          obtain ⟨io, k1, k2, k3⟩ := argsF_ok hM ks' ds r vs h2 (by simpa using hl) hr'
          cases hv.cell rfl with
          | c _ _ hh => cases hh
          | box _ _ gi hg =>
            obtain ⟨gi', hg', hlv, c, T, q1, q2, q3⟩ := hM.ent id _ hm
            rw [hg] at hg'; cases hg'
            refine ⟨gi.blk :: io, .io cs' gi.blk c T r vs io q1 (by rw [q2, mapO_length h1]) (fun i d u hd hu => ?_) k1, by simp [ioIds, k2], fun k id' b hk hb => ?_⟩
            · obtain ⟨x, hx1, hx2⟩ := mapO_get h1 hd
              have ht := q3 i x u hx1 hu
              exact .c _ _ (fz_ok hM (fun _ h => h) (fun h => by simp at h) 1 ht.isCell ht hx2)
            · cases k with
              | zero =>
                simp [ioIds] at hk hb
                subst hk; subst hb
                exact ⟨cs, gi, hm, hg, rfl⟩
              | succ k => exact k3 k id' b (by simpa [ioIds] using hk) (by simpa using hb)
        · simp at h1'
      · simp at h
    | [], d => exact byVal [] (by simpa [argsF] using h) (by simp [ioIds])
    | false :: ks', d => exact byVal ks' (by simpa [argsF] using h) (by simp [ioIds])
    | true :: ks', .box id (o + 1) => exact byVal ks' (by simpa [argsF] using h) (by simp [ioIds])
    | true :: ks', .v x => exact byVal ks' (by simpa [argsF] using h) (by simp [ioIds])
    | true :: ks', .agg x => exact byVal ks' (by simpa [argsF] using h) (by simp [ioIds])
    | true :: ks', .tup x => exact byVal ks' (by simpa [argsF] using h) (by simp [ioIds])
    | true :: ks', .nils => exact byVal ks' (by simpa [argsF] using h) (by simp [ioIds])
    | true :: ks', .sl _ _ => exact byVal ks' (by simpa [argsF] using h) (by simp [ioIds])
    | true :: ks', .rp _ _ _ _ => exact byVal ks' (by simpa [argsF] using h) (by simp [ioIds])
    | true :: ks', .fn _ _ _ => exact byVal ks' (by simpa [argsF] using h) (by simp [ioIds])
    | true :: ks', .row _ => exact byVal ks' (by simpa [argsF] using h) (by simp [ioIds])
    | true :: ks', .vw _ _ _ => exact byVal ks' (by simpa [argsF] using h) (by simp [ioIds])
    | true :: ks', .elt _ _ _ => exact byVal ks' (by simpa [argsF] using h) (by simp [ioIds])
    | true :: ks', .mp _ => exact byVal ks' (by simpa [argsF] using h) (by simp [ioIds])
    | true :: ks', .it _ => exact byVal ks' (by simpa [argsF] using h) (by simp [ioIds])
    | true :: ks', .junk => exact byVal ks' (by simpa [argsF] using h) (by simp [ioIds])

end Go.Abs
