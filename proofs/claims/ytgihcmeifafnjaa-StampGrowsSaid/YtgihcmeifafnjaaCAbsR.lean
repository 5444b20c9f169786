/- The abstract machine, eighteenth part: calls depend on what they touch alone; every operation does. -/
import Derived.Test.YtgihcmeifafnjaaCAbsQ
set_option linter.unusedVariables false
set_option linter.unusedSimpArgs false
namespace Go.Abs
open Go

theorem argsV_congr {M N : Mem} {ds : List D} (h : agr (ds.flatMap (ids M 5)) M N) : argsV N ds = argsV M ds := by
  unfold argsV
  rw [mapO_congr fun x hx => fz_congr 4 5 x (by omega) fun i hi => h i (List.mem_flatMap.2 ⟨x, hx, hi⟩)]
theorem ioArg_congr {M N : Mem} {id : Nat} (h : agr (ids M 5 (.box id 0)) M N) : ioArg N id = ioArg M id := by
  unfold ioArg
  rw [h id (by simp [ids])]
  split
  · rename_i cs hc
    rw [mapO_congr fun x hx => fz_congr 1 4 x (by omega) fun i hi => h i (by simp only [ids, hc]; exact List.mem_cons_of_mem _ (List.mem_flatMap.2 ⟨x, hx, hi⟩))]
  · rfl
theorem argsF_congr {M N : Mem} : ∀ (ks : List Bool) (ds : List D), agr (ds.flatMap (ids M 5)) M N → argsF N ks ds = argsF M ks ds
  | ks, [], _ => by cases ks <;> rfl
  | ks, d :: ds, h => by
    have hd : agr (ids M 5 d) M N := fun i hi => h i (List.mem_flatMap.2 ⟨d, List.mem_cons_self, hi⟩)
    have ht : agr (ds.flatMap (ids M 5)) M N := fun i hi => by
      obtain ⟨x, hx, hi⟩ := List.mem_flatMap.1 hi
      exact h i (List.mem_flatMap.2 ⟨x, List.mem_cons_of_mem _ hx, hi⟩)
    have byVal : ∀ ks', consAD ((fz N false 1 d).map .d) (argsF N ks' ds) = consAD ((fz M false 1 d).map .d) (argsF M ks' ds) := fun ks' => by
      rw [fz_congr 1 5 d (by omega) hd, argsF_congr ks' ds ht]
    match ks, d with
    | true :: ks', .box id 0 => simp only [argsF]; rw [ioArg_congr hd, argsF_congr ks' ds ht]
    | [], d => simpa [argsF] using byVal []
    | false :: ks', d => simpa [argsF] using byVal ks'
    | true :: ks', .box id (o + 1) => simpa [argsF] using byVal ks'
    | true :: ks', .v x => simpa [argsF] using byVal ks'
    | true :: ks', .agg x => simpa [argsF] using byVal ks'
    | true :: ks', .tup x => simpa [argsF] using byVal ks'
    | true :: ks', .nils => simpa [argsF] using byVal ks'
    | true :: ks', .sl _ _ => simpa [argsF] using byVal ks'
    | true :: ks', .rp _ _ _ _ => simpa [argsF] using byVal ks'
    | true :: ks', .fn _ _ _ => simpa [argsF] using byVal ks'
    | true :: ks', .row _ => simpa [argsF] using byVal ks'
    | true :: ks', .vw _ _ _ => simpa [argsF] using byVal ks'
    | true :: ks', .elt _ _ _ => simpa [argsF] using byVal ks'
    | true :: ks', .mp _ => simpa [argsF] using byVal ks'
    | true :: ks', .it _ => simpa [argsF] using byVal ks'
    | true :: ks', .junk => simpa [argsF] using byVal ks'

theorem ioM_pt : ∀ (l : List Nat) (css : List (List D)) {M N : Mem} {id : Nat}, N id = M id → ioM N l css id = ioM M l css id
  | [], css, _, _, _, h => by cases css <;> exact h
  | i :: l, [], _, _, _, h => h
  | i :: l, cs :: css, M, N, id, h => by
    simp only [ioM]
    exact ioM_pt l css (by simp only [upd]; split <;> first | rfl | exact h)
theorem retM_pt {fid : Nat} {rs : List RD} {M N : Mem} {id : Nat} (h : N id = M id) : retM fid N rs id = retM fid M rs id := by
  rw [retM_get, retM_get, h]
theorem retM_out {fid : Nat} {rs : List RD} {M : Mem} {id : Nat} (hl : rs.length ≤ 4) (h : id ∉ fid4 fid) : retM fid M rs id = M id := by
  rw [retM_get]
  split
  · rename_i rd hrd
    exfalso
    split at hrd
    · rename_i hle
      have : id - fid < rs.length := by
        rcases Nat.lt_or_ge (id - fid) rs.length with h | h
        · exact h
        · simp [List.getElem?_eq_none h] at hrd
      apply h
      simp only [fid4, List.mem_cons, List.not_mem_nil, or_false]
      omega
    · cases hrd
  · rfl

theorem loc_call {K : Kt} (hD : KDet K) {np fid : Nat} {f : FuncId} {ds : List D} {M : Mem} {nx : D → Mem → Prop} {k : Con} (hk : K f = some k) (hs : k.srt = none) {T W : List Nat}
    (hf : (if k.clean then some (ds.flatMap (ids M 5), fid4 fid) else if ds.all (nf np M) then some (ds.flatMap (ids M 5), ioIds k.kinds ds ++ fid4 fid) else none) = some (T, W))
    (h : semCall K np f ds M fid nx) : LocAt T W (fun M => semCall K np f ds M fid) M nx := by
  unfold semCall at h
  rw [hk] at h
  simp only [hs] at h
  split at h
  · rename_i hc
    rw [if_pos hc] at hf
    simp only [Option.some.injEq, Prod.mk.injEq] at hf
    obtain ⟨rfl, rfl⟩ := hf
    obtain ⟨a, h1, h2, h3⟩ := h
    obtain ⟨r, hr, hlen, huni⟩ := hD f k hk a h2
    obtain ⟨h4, h5⟩ := h3 r hr
    refine ⟨_, _, h5, fun i hi => retM_out hlen hi, fun N hN nx' hx => ?_⟩
    have hN1 : agr (ds.flatMap (ids M 5)) M N := fun i hi => hN i (List.mem_append_left _ hi)
    have hN2 : agr (fid4 fid) M N := fun i hi => hN i (List.mem_append_right _ hi)
    have hov : ovr (fid4 fid) (retM fid M r.ret) N = retM fid N r.ret := by
      funext i
      simp only [ovr]
      split
      · rename_i hi; exact (retM_pt (hN2 i hi)).symm
      · rename_i hi; exact (retM_out hlen hi).symm
    rw [hov] at hx
    simp only [semCall, hk, hs, hc, if_true]
    refine ⟨a, by rw [argsV_congr hN1]; exact h1, h2, fun r' hr' => ?_⟩
    rw [huni r' hr']
    refine ⟨fun j hj => ?_, hx⟩
    rw [hN2 (fid + j) (by simp only [fid4, List.mem_cons, List.not_mem_nil, or_false]; omega)]
    exact h4 j hj
  · rename_i hc
    rw [if_neg hc] at hf
    split at hf
    · rename_i hnf
      simp only [Option.some.injEq, Prod.mk.injEq] at hf
      obtain ⟨rfl, rfl⟩ := hf
      rw [nfA_eq hnf] at h
      obtain ⟨h0, a, h1, h2, h3⟩ := h
      obtain ⟨r, hr, hlen, huni⟩ := hD f k hk a h2
      obtain ⟨h4, h5⟩ := h3 r hr
      refine ⟨_, _, h5, fun i hi => ?_, fun N hN nx' hx => ?_⟩
      · rw [List.mem_append, not_or] at hi
        rw [retM_out hlen hi.2, ioM_other _ _ _ _ hi.1]
      have hN1 : agr (ds.flatMap (ids M 5)) M N := fun i hi => hN i (List.mem_append_left _ hi)
      have hN2 : agr (ioIds k.kinds ds ++ fid4 fid) M N := fun i hi => hN i (List.mem_append_right _ hi)
      have hov : ovr (ioIds k.kinds ds ++ fid4 fid) (retM fid (ioM M (ioIds k.kinds ds) r.io) r.ret) N = retM fid (ioM N (ioIds k.kinds ds) r.io) r.ret := by
        funext i
        simp only [ovr]
        split
        · rename_i hi; exact (retM_pt (ioM_pt _ _ (hN2 i hi))).symm
        · rename_i hi
          rw [List.mem_append, not_or] at hi
          rw [retM_out hlen hi.2, ioM_other _ _ _ _ hi.1]
      rw [hov] at hx
      have hnf' : ds.all (nf np N) = true := by
        rw [all_congr fun x hx => nf_congr 4 fun i hi => hN1 i (List.mem_flatMap.2 ⟨x, hx, hi⟩)]; exact hnf
      simp only [semCall, hk, hs, hc, nfA_eq hnf']
      refine ⟨h0, a, by rw [argsF_congr _ _ hN1]; exact h1, h2, fun r' hr' => ?_⟩
      rw [huni r' hr']
      refine ⟨fun j hj => ?_, hx⟩
      rw [hN2 (fid + j) (List.mem_append_right _ (by simp only [fid4, List.mem_cons, List.not_mem_nil, or_false]; omega))]
      exact h4 j hj
    · cases hf

theorem sem_loc {P : Program} {K : Kt} (hD : KDet K) {np fid : Nat} {op : Op} {ρ : Operand → D} {M : Mem} {nx : D → Mem → Prop} {T W : List Nat} (hf : foot K np op ρ M fid = some (T, W))
    (h : sem P K np op ρ M fid nx) : LocAt T W (fun M => sem P K np op ρ M fid) M nx := by
  unfold foot at hf
  split at hf <;> first
    | (simp only [Option.some.injEq, Prod.mk.injEq] at hf; obtain ⟨rfl, rfl⟩ := hf)
    | skip
  · exact PureAt.loc ⟨_, h, fun N nx' hn => hn⟩
  · exact PureAt.loc ⟨_, h, fun N nx' hn => hn⟩
  · exact (pure_pick h).loc
  · exact (pure_build h).loc
  · exact (pure_nil h).loc
  · exact (pure_bin h).loc
  · exact (pure_un h).loc
  · exact (pure_conv h).loc
  · exact (pure_makeFunc h).loc
  · exact (pure_fieldAddr h).loc
  · exact (pure_field h).loc
  · exact (pure_index h).loc
  · exact (pure_extract h).loc
  · exact loc_alloc h
  · exact loc_box h
  · exact loc_makeSlice h
  · exact loc_load h
  · exact loc_indexAddr h
  · exact loc_slice h
  · split at hf
    · rename_i hnf
      simp only [Option.some.injEq, Prod.mk.injEq] at hf; obtain ⟨rfl, rfl⟩ := hf
      exact loc_buildSlice hnf h
    · cases hf
  · split at hf
    · rename_i hnf
      simp only [Option.some.injEq, Prod.mk.injEq] at hf; obtain ⟨rfl, rfl⟩ := hf
      exact loc_store hnf h
    · cases hf
  · rename_i c
    obtain ⟨callee, args, argTypes⟩ := c
    split at hf
    · rename_i b hb
      simp only at hb; subst hb
      simp only [sem] at h
      generalize hds : args.toList.map ρ = ds at hf h
      have goal : LocAt T W (fun M => semBuiltin P np b ds argTypes.toList M fid) M nx → LocAt T W (fun M => sem P K np (.call ⟨.builtin b, args, argTypes⟩) ρ M fid) M nx := by
        intro hg
        have e : (fun M => sem P K np (.call ⟨.builtin b, args, argTypes⟩) ρ M fid) = fun M => semBuiltin P np b ds argTypes.toList M fid := by rw [← hds]; rfl
        rw [e]; exact hg
      refine goal ?_
      generalize argTypes.toList = ts at h ⊢
      split at hf
      · simp only [Option.some.injEq, Prod.mk.injEq] at hf; obtain ⟨rfl, rfl⟩ := hf
        unfold semBuiltin at h
        split at h <;> first | exact h.elim | skip
        all_goals simp_all
        rename_i hh
        obtain ⟨rfl, rfl⟩ := hh
        exact loc_len h
      · simp only [Option.some.injEq, Prod.mk.injEq] at hf; obtain ⟨rfl, rfl⟩ := hf
        unfold semBuiltin at h
        split at h <;> first | exact h.elim | skip
        all_goals simp_all
        exact loc_append h
      · simp only [Option.some.injEq, Prod.mk.injEq] at hf; obtain ⟨rfl, rfl⟩ := hf
        simp only [semBuiltin] at h ⊢
        exact (pure_mm h).loc
      · simp only [Option.some.injEq, Prod.mk.injEq] at hf; obtain ⟨rfl, rfl⟩ := hf
        simp only [semBuiltin] at h ⊢
        exact (pure_mm h).loc
      · cases hf
    · rename_i f hb
      simp only at hb; subst hb
      split at hf
      · rename_i ff first caps hfn
        have e : (fun M => sem P K np (.call ⟨.value f, args, argTypes⟩) ρ M fid) = fun M => semCall K np ff (first ++ args.toList.map ρ ++ caps) M fid := by funext M nx; simp only [sem, hfn]
        simp only [sem, hfn] at h
        split at hf
        · rename_i k hk
          split at hf
          · cases hf
          · rename_i hsn; rw [e]; exact loc_call hD hk hsn hf h
        · cases hf
      · cases hf
    · cases hf
  · cases hf

end Go.Abs
