import Derived.Test.YtjhhmkkndgocfaaCInsT
import Derived.Lib.SlicesDelete
import Derived.Sort.WalkB12
import Derived.Deep.RegionLaw
import Derived.Test.YtjhhmkkndgocfaaCAbsSo
import Derived.Test.YtjhhmkkndgocfaaCR1M
import Derived.Test.YtjhhmkkndgocfaaCAbsQ
import Derived.Test.YtjhhmkkndgocfaaCR1H
set_option linter.unusedVariables false
set_option linter.unusedSimpArgs false
namespace Go.Proofs
open Go.Shelf Go.RowKit Go.Lib Go.Sort

theorem run_clear_one {P : Program} (w : World) (t e ty : TypeId) (z : Value) (ht : P.underlying t = some (.slice e)) (hv : ∀ w, (zeroValue e).run P w = .ok z w) (h1 : ∀ v ∈ z.cells.toList, v.oneCell' = true) (b o c : Nat)
    (hc : ∀ j, j < z.cells.size → (w.cell? ⟨b, o + j, none⟩).isSome = true) (hf : ∀ j, j < z.cells.size → w.frozen? ⟨b, o + j, none⟩ = false) :
    (Builtin.clear_ #[t] ty #[.slice (some ⟨b, o, none⟩) 1 c]).run P w = .ok (.tuple #[]) (w.setCells b o z.cells.toList) := by
  have hzc : (Builtin.zeroCells z.cells 1).toList = z.cells.toList := by
    simp only [Builtin.zeroCells, Nat.one_mul]
    apply List.ext_getElem
    · simp
    · intro i h1 h2
      have hi : i < z.cells.size := by simpa using h2
      simp [Nat.mod_eq_of_lt hi, getElem!_pos z.cells i hi]
  have hst := run_storeCells_cells (P := P) b o z.cells.toList 0 w (by simpa using hc) (by simpa using hf) h1
  simp only [Nat.add_zero] at hst
  simp [Builtin.clear_, run_underlying ht, hv, hzc, hst]

set_option maxHeartbeats 4000000 in
set_option maxRecDepth 100000 in
/-- slices.Delete(s, i, i + 1). -/
theorem del_one (b n c i : Nat) (cs : List Value) (w : World) (hi : i < n) (hnc : n ≤ c) (hn63 : n ≤ 4611686018427387904)
    (hcl : cs.length = n * 4) (hcs : ∀ j v, cs[j]? = some v → w.cell? ⟨b, j, none⟩ = some v) (hfz : ∀ j, j < n * 4 → w.frozen? ⟨b, j, none⟩ = false) (h1c : ∀ v ∈ cs, v.oneCell' = true) :
    Calls Try.prog 50 #[.slice (some ⟨b, 0, none⟩) n c, .int .i64 i, .int .i64 ((i : Int) + 1)] w fun e w' =>
      e = .returned (.slice (some ⟨b, 0, none⟩) (n - 1) c) ∧ w' = (w.drew.setCells b (i * 4) (cs.drop ((i + 1) * 4))).setCells b ((n - 1) * 4) [.int .i64 0, .int .i64 0, .int .i64 0, .bool false] := by
  have u3 := run_underlying Try.underlying3; have u4 := run_underlying Try.underlying4; have u49 := run_underlying Try.underlying49; have u43 := run_underlying Try.underlying43
  have t43 := Try.underlying43; have t49 := Try.underlying49; have t3 := Try.underlying3
  have z49 := Try.sizeOf49; have a49 := Try.isAgg49; have v49 := Try.zeroValue49
  have mixed : Try.prog.follows .mixedOrders = true := by kernel_rfl
  obtain ⟨i0, hi0, hz0, hzs, hzb⟩ := info_parts ins_info
  obtain ⟨news, hnews⟩ : ∃ news, news = cs.drop ((i + 1) * 4) := ⟨_, rfl⟩
  have hlen : news.length = (n - (i + 1)) * 4 := by rw [hnews, List.length_drop, hcl]; omega
  have hsp : ∀ k, k < n * 4 → (w.cell? ⟨b, k, none⟩).isSome = true := fun k hk => by rw [hcs k _ (List.getElem?_eq_getElem (by omega))]; rfl
  obtain ⟨A, hA, hsrc⟩ : ∃ A : Addr, (if c = i + 1 then (some (⟨b, 0, none⟩ : Addr)) else some ⟨b, (i + 1) * 4, none⟩) = some A ∧ Hid (∀ t u, news[t]? = some u → w.drew.cell? (A.add t) = some u) := by
    by_cases h : c = i + 1
    · refine ⟨⟨b, 0, none⟩, by simp [h], fun t u hu => ?_⟩
      have h0 : news.length = 0 := by rw [hlen]; omega
      rw [List.length_eq_zero_iff.1 h0] at hu
      simp at hu
    · refine ⟨⟨b, (i + 1) * 4, none⟩, by simp [h], fun t u hu => ?_⟩
      rw [hnews, List.getElem?_drop] at hu
      rw [Addr.add_lit]
      exact hcs _ _ hu
  have s1 : Hid (news.length = (n - (i + 1)) * 4) := hlen
  have s2 : Hid (∀ u ∈ news, u.oneCell' = true) := by
    intro u hu
    rw [hnews] at hu
    exact h1c u (List.mem_of_mem_drop hu)
  have s3 : Hid (∀ t, t < news.length → (w.drew.cell? ⟨b, 0 + i * 4 + t, none⟩).isSome = true ∧ w.drew.frozen? ⟨b, 0 + i * 4 + t, none⟩ = false) := by
    intro t ht
    rw [hlen] at ht
    rw [Nat.zero_add]
    exact ⟨hsp _ (by omega), hfz _ (by omega)⟩
  obtain ⟨W1, hW1⟩ : ∃ W1, W1 = w.drew.setCells b (0 + i * 4) news := ⟨_, rfl⟩
  have hsp1 : ∀ k, k < n * 4 → (W1.cell? ⟨b, k, none⟩).isSome = true := fun k hk => by
    rw [hW1]
    exact isSome_setCells b news (0 + i * 4) w.drew (fun j hj => (s3.out j hj).1) _ (hsp k hk)
  have hcl1 : ∀ ty c', (Builtin.clear_ #[43] ty #[.slice (some ⟨b, (i + (n - (i + 1))) * 4, none⟩) (n - (i + (n - (i + 1)))) c']).run Try.prog W1 = .ok (.tuple #[]) (W1.setCells b ((n - 1) * 4) [.int .i64 0, .int .i64 0, .int .i64 0, .bool false]) := fun ty c' => by
    rw [show i + (n - (i + 1)) = n - 1 by omega, show n - (n - 1) = 1 by omega]
    exact run_clear_one W1 43 49 ty _ t43 v49 (by simp [Value.cells, Value.oneCell']) b ((n - 1) * 4) c' (fun j hj => hsp1 _ (by simp [Value.cells] at hj; omega)) (fun j hj => by rw [hW1, World.frozen?_setCells]; exact hfz _ (by simp [Value.cells] at hj; omega))
  have hW : Hid (W1 = w.drew.setCells b (0 + i * 4) news) := hW1
  have hN : Hid (news = cs.drop ((i + 1) * 4)) := hnews
  have hne : ¬ ((i : Int) = (i : Int) + 1) := by omega
  have hic : i ≤ c := by omega
  have hjc : i + 1 ≤ c := by omega
  have htn : ((i : Int) + 1).toNat = i + 1 := by omega
  have hb1 : (0 : Int) ≤ (i : Int) + 1 := by omega
  have hb2 : (i : Int) + 1 ≤ (n : Int) := by omega
  have hb3 : (i : Int) ≤ (i : Int) + 1 := by omega
  clear hW1 hnews hlen
  go_enter Try.func50, Try.ntmps50
  go_wp2_with fail
  go_region_law_o (refine step_append_room rfl (.tmp 22) (.tmp 25) 43 rfl 49 i0 4 t43 hi0 hzs b 0 i c (by simp [Act.eval, Act.put]) A (n - (i + 1)) (c - (i + 1)) news (by simp [Act.eval, Act.put]) s1.out hsrc.out s2.out (by omega) s3.out ?_; rw [← hW.out])
  go_wp2
  go_ret
  refine ⟨by rw [show n - 1 = i + (n - (i + 1)) by omega]; rfl, ?_⟩
  rw [hW.out, hN.out, Nat.zero_add]
end Go.Proofs

set_option linter.unusedVariables false
set_option linter.unusedSimpArgs false
namespace Go.Proofs
open Go Go.Abs Go.Shelf Go.RowKit Go.Lib

theorem splice_at {cur : List Value} {o : Nat} {vs : List Value} (h : o + vs.length ≤ cur.length) (j : Nat) : (cur.take o ++ vs ++ cur.drop (o + vs.length))[j]? = if j < o then cur[j]? else if j < o + vs.length then vs[j - o]? else cur[j]? := by
  by_cases h1 : j < o
  · rw [if_pos h1, List.append_assoc, List.getElem?_append_left (by simp; omega), List.getElem?_take, if_pos h1]
  · rw [if_neg h1]
    by_cases h2 : j < o + vs.length
    · rw [if_pos h2, List.append_assoc, List.getElem?_append_right (by simp; omega), List.getElem?_append_left (by simp; omega)]
      congr 1; simp; omega
    · rw [if_neg h2, List.getElem?_append_right (by simp; omega), List.getElem?_drop]
      congr 1; simp; omega

theorem ins_at {cs vs : List Value} {o : Nat} (ho : o ≤ cs.length) (j : Nat) : (cs.take o ++ vs ++ cs.drop o)[j]? = if j < o then cs[j]? else if j < o + vs.length then vs[j - o]? else cs[j - vs.length]? := by
  by_cases h1 : j < o
  · rw [if_pos h1, List.append_assoc, List.getElem?_append_left (by simp; omega), List.getElem?_take, if_pos h1]
  · rw [if_neg h1]
    by_cases h2 : j < o + vs.length
    · rw [if_pos h2, List.append_assoc, List.getElem?_append_right (by simp; omega), List.getElem?_append_left (by simp; omega)]
      congr 1; simp; omega
    · rw [if_neg h2, List.getElem?_append_right (by simp; omega), List.getElem?_drop]
      congr 1; simp; omega
theorem ins_list {cur cs vs : List Value} {o : Nat} (ho : o ≤ cs.length) (hfit : cs.length + vs.length ≤ cur.length) (hcs : ∀ j v, j < o → cs[j]? = some v → cur[j]? = some v) (A B : List Value)
    (hB : B = cur.take (o + vs.length) ++ cs.drop o ++ cur.drop (o + vs.length + (cs.drop o).length)) (hA : A = B.take o ++ vs ++ B.drop (o + vs.length)) (j : Nat) (v : Value) (h : (cs.take o ++ vs ++ cs.drop o)[j]? = some v) : A[j]? = some v := by
  have hdl : (cs.drop o).length = cs.length - o := by simp
  have hBl : B.length = cur.length := by rw [hB]; simp; omega
  rw [ins_at ho] at h
  rw [hA, splice_at (by omega)]
  by_cases h1 : j < o
  · rw [if_pos h1] at h ⊢
    rw [hB, splice_at (by rw [hdl]; omega), if_pos (by omega)]
    exact hcs j v h1 h
  · rw [if_neg h1] at h ⊢
    by_cases h2 : j < o + vs.length
    · rw [if_pos h2] at h ⊢; exact h
    · rw [if_neg h2] at h ⊢
      have hj : j - vs.length < cs.length := (List.getElem?_eq_some_iff.1 h).1
      rw [hB, splice_at (by rw [hdl]; omega), if_neg (by omega), if_pos (by rw [hdl]; omega), List.getElem?_drop]
      rw [← h]; congr 1; omega
theorem ins_list2 {cur cs vs : List Value} {o : Nat} (ho : o ≤ cs.length) (hfit : cs.length + vs.length ≤ cur.length) (hcs : ∀ j v, j < o → cs[j]? = some v → cur[j]? = some v) (A B : List Value)
    (hB : B = cur.take o ++ vs ++ cur.drop (o + vs.length)) (hA : A = B.take (o + vs.length) ++ cs.drop o ++ B.drop (o + vs.length + (cs.drop o).length)) (j : Nat) (v : Value) (h : (cs.take o ++ vs ++ cs.drop o)[j]? = some v) : A[j]? = some v := by
  have hdl : (cs.drop o).length = cs.length - o := by simp
  have hBl : B.length = cur.length := by rw [hB]; simp; omega
  rw [ins_at ho] at h
  rw [hA, splice_at (by rw [hdl]; omega)]
  by_cases h1 : j < o
  · rw [if_pos h1] at h
    rw [if_pos (by omega), hB, splice_at (by omega), if_pos h1]
    exact hcs j v h1 h
  · rw [if_neg h1] at h
    by_cases h2 : j < o + vs.length
    · rw [if_pos h2] at h
      rw [if_pos h2, hB, splice_at (by omega), if_neg h1, if_pos h2]; exact h
    · rw [if_neg h2] at h
      have hj : j - vs.length < cs.length := (List.getElem?_eq_some_iff.1 h).1
      rw [if_neg h2, if_pos (by rw [hdl]; omega), List.getElem?_drop]
      rw [← h]; congr 1; omega

theorem ins_ok : InsOk Try.prog 51 4 32 where
  fn := ⟨_, Try.func51, by kernel_rfl, by kernel_rfl⟩
  nil := fun a vb vc vs vcur VT w hb hl h1 hv hvs => by
    refine (ins_end_grow a 0 0 vb vc [] vs w (Nat.le_refl _) (by omega) (by omega) rfl hl (fun _ => rfl) (fun _ _ j v h => by simp at h) (fun j v hj => by rw [cell_of_row w vb j vcur VT (0, 0) hv]; exact hvs j v hj) h1).mono ?_
    rintro e w' ⟨rfl, rfl⟩
    refine ⟨1, _, 49, _, grownCap_ge w 1 0 49, ?_, rfl, rfl, fun j v hj => ?_⟩
    · have := grownCap_ge w (0 + 1) 0 49
      simp [Builtin.zeroCells, Value.cells, hl]; omega
    · have hj' : j < vs.length := (List.getElem?_eq_some_iff.1 hj).1
      rw [Array.getElem?_append_left (by simpa using hj')]
      simpa using hj
  row := fun blk n c i vb vc cs vs cur vcur T VT w hi hnc hc0 hbig hcl hvl h1c h1v hb hcap hcs hv hvs hne => by
    have hcs' : ∀ j v, cs[j]? = some v → w.cell? ⟨blk, j, none⟩ = some v := fun j v hj => by rw [cell_of_row w blk j cur T (0, 0) hb]; exact hcs j v hj
    have hvs' : ∀ j v, vs[j]? = some v → w.cell? ⟨vb, j, none⟩ = some v := fun j v hj => by rw [cell_of_row w vb j vcur VT (0, 0) hv]; exact hvs j v hj
    have hisS : ∀ j, j < cur.size → (w.cell? ⟨blk, j, none⟩).isSome = true := fun j hj => by rw [cell_of_row w blk j cur T (0, 0) hb, Array.getElem?_eq_getElem hj]; rfl
    have hfr : ∀ j, w.frozen? ⟨blk, j, none⟩ = false := fun j => by simp [World.frozen?, hb]
    have hfv : ∀ j, w.frozen? ⟨vb, j, none⟩ = false := fun j => by simp [World.frozen?, hv]
    have hdl : (cs.drop (i * 4)).length = (n - i) * 4 := by rw [List.length_drop, hcl]; omega
    have hp : (i + 1) * 4 = i * 4 + vs.length := by rw [hvl]; omega
    by_cases hroom : n + 1 ≤ c
    · rcases Nat.lt_or_eq_of_le hi with hlt | heq
      · refine (ins_shift blk n c i vb vc cs vs w hlt hroom hbig hne hcl hvl hcs' (fun j hj => hisS j (by omega)) (fun j _ => hfr j) hvs' h1c h1v VT T vcur.size cur.size (by simp [World.shape?, hv]) (by simp [World.shape?, hb]) (by omega) (hfv _) (hfv _)).mono ?_
        rintro e w' ⟨rfl, rfl⟩
        have hb' : (w.drewN 1).heap[blk]? = some (.cells cur T (0, 0)) := hb
        have e1 := setCells_eq_setRow (P := Try.prog) (o := (i + 1) * 4) (vs := cs.drop (i * 4)) hb' (by rw [hdl]; omega) (fun v hv => h1c v (List.mem_of_mem_drop hv))
        have e2 := setCells_eq_setRow (P := Try.prog) (o := i * 4) (vs := vs) (setRow_heap (w.drewN 1) blk cur (cur.toList.take ((i + 1) * 4) ++ cs.drop (i * 4) ++ cur.toList.drop ((i + 1) * 4 + (cs.drop (i * 4)).length)).toArray T (0, 0) hb') (by simp [hcl, hvl]; omega) h1v
        refine .inl ⟨1, _, ?_, hroom, rfl, (congrArg (fun W => World.setCells W blk (i * 4) vs) e1).trans (e2.trans (setRow_setRow _ _ _ _)), fun j v hj => ?_⟩
        · simp [hcl, hvl]; omega
        · rw [List.getElem?_toArray]
          exact ins_list (cur := cur.toList) (o := i * 4) (by omega) (by simp; omega) (fun j v _ h => by simpa using hcs j v h) _ _ (by rw [hp]) rfl j v hj
      · subst heq
        refine (ins_end_room blk i c vb vc vs w hroom hbig hvl (fun j hj => hisS _ (by omega)) (fun j _ => hfr _) hvs' h1v).mono ?_
        rintro e w' ⟨rfl, rfl⟩
        have hb' : (w.drewN 0).heap[blk]? = some (.cells cur T (0, 0)) := hb
        have e2 := setCells_eq_setRow (P := Try.prog) (o := i * 4) (vs := vs) hb' (by rw [hvl]; omega) h1v
        refine .inl ⟨0, _, ?_, hroom, rfl, e2, fun j v hj => ?_⟩
        · simp [hvl]; omega
        · rw [List.getElem?_toArray]
          have hd0 : cs.drop (i * 4) = [] := by rw [List.drop_eq_nil_of_le (by omega)]
          exact ins_list (cur := cur.toList) (o := i * 4) (by omega) (by simp; omega) (fun j v _ h => by simpa using hcs j v h) _ cur.toList (by rw [hd0]; simp) rfl j v hj
    · rcases Nat.lt_or_eq_of_le hi with hlt | heq
      · refine (ins_grow blk n c i vb vc cs vs w hlt hnc (by omega) hbig hcl hvl hcs' hvs' h1c h1v).mono ?_
        rintro e w' ⟨rfl, rfl⟩
        have hge := grownCap_ge w (n + 1) c 49
        generalize hG : grownCap w (n + 1) c 49 = G at *
        obtain ⟨ROW, hROW⟩ : ∃ ROW : Array Value, ROW = (cs.take (i * 4)).toArray ++ Builtin.zeroCells (Value.agg #[.int .i64 0, .int .i64 0, .int .i64 0, .bool false]).cells (n + 1 - i) ++ Builtin.zeroCells (Value.agg #[.int .i64 0, .int .i64 0, .int .i64 0, .bool false]).cells (G - (n + 1)) := ⟨_, rfl⟩
        rw [← hROW]
        have hRs : ROW.size = G * 4 := by rw [hROW]; simp [Builtin.zeroCells, Value.cells, hcl]; omega
        have hRg : ∀ j v, j < i * 4 → cs[j]? = some v → ROW.toList[j]? = some v := fun j v hj h => by
          rw [Array.getElem?_toList, hROW, Array.getElem?_append_left (by simp [Builtin.zeroCells, Value.cells, hcl]; omega), Array.getElem?_append_left (by simp [hcl]; omega)]
          simp [List.getElem?_take, hj, h]
        have hh : ((w.drewN 2).alloc (.cells ROW 49)).heap[w.heap.size]? = some (.cells ROW 49 (0, 0)) := by simp [World.alloc, World.drewN]
        have e1 := setCells_eq_setRow (P := Try.prog) (o := i * 4) (vs := vs) hh (by omega) h1v
        have hh2 := setRow_heap ((w.drewN 2).alloc (.cells ROW 49)) w.heap.size ROW (ROW.toList.take (i * 4) ++ vs ++ ROW.toList.drop (i * 4 + vs.length)).toArray 49 (0, 0) hh
        have e2 := setCells_eq_setRow (P := Try.prog) (o := (i + 1) * 4) (vs := cs.drop (i * 4)) hh2 (by rw [hdl]; simp [hvl, hRs]; omega) (fun v hv => h1c v (List.mem_of_mem_drop hv))
        have e3 : ((((w.alloc (.cells ROW 49)).drew.setCells w.heap.size (i * 4) vs).drew).setCells w.heap.size ((i + 1) * 4) (cs.drop (i * 4))) = (((w.drewN 2).alloc (.cells ROW 49)).setCells w.heap.size (i * 4) vs).setCells w.heap.size ((i + 1) * 4) (cs.drop (i * 4)) := by
          rw [drew_setCells]; rfl
        refine .inr ⟨2, _, 49, G, hge, ?_, rfl, (e3.trans (congrArg (fun W => World.setCells W w.heap.size ((i + 1) * 4) (cs.drop (i * 4))) e1)).trans (e2.trans ((setRow_setRow _ _ _ _).trans (alloc_setRow (w.drewN 2) _ _ _))), fun j v hj => ?_⟩
        · simp [hcl, hvl, hRs]; omega
        · rw [List.getElem?_toArray]
          exact ins_list2 (cur := ROW.toList) (o := i * 4) (by omega) (by simp [hRs]; omega) hRg _ _ rfl (by rw [hp]) j v hj
      · subst heq
        refine (ins_end_grow (some ⟨blk, 0, none⟩) i c vb vc cs vs w hnc (by omega) hbig hcl hvl (fun h => by cases h) (fun a ha j v hj => by cases ha; rw [Addr.add_lit, Nat.zero_add]; exact hcs' j v hj) hvs' h1v).mono ?_
        rintro e w' ⟨rfl, rfl⟩
        have hge := grownCap_ge w (i + 1) c 49
        refine .inr ⟨1, _, 49, _, hge, ?_, rfl, rfl, fun j v hj => ?_⟩
        · simp [Builtin.zeroCells, Value.cells, hvl, hcl]; omega
        · have hd0 : cs.drop (i * 4) = [] := by rw [List.drop_eq_nil_of_le (by omega)]
          have ht0 : cs.take (i * 4) = cs := by rw [List.take_of_length_le (by omega)]
          rw [hd0, ht0, List.append_nil] at hj
          have hj' : j < (cs ++ vs).length := (List.getElem?_eq_some_iff.1 hj).1
          rw [Array.getElem?_append_left (by simpa using hj')]
          simpa using hj

theorem del_ok : DelOk Try.prog 50 4 where
  fn := ⟨_, Try.func50, by kernel_rfl, by kernel_rfl⟩
  row := fun blk n c i cs cur T w hi hnc hn63 hcl h1c hb hcap hcs => by
    have hcs' : ∀ j v, cs[j]? = some v → w.cell? ⟨blk, j, none⟩ = some v := fun j v hj => by rw [cell_of_row w blk j cur T (0, 0) hb]; exact hcs j v hj
    have hfr : ∀ j, w.frozen? ⟨blk, j, none⟩ = false := fun j => by simp [World.frozen?, hb]
    refine (del_one blk n c i cs w hi hnc hn63 hcl hcs' (fun j _ => hfr j) h1c).mono ?_
    rintro e w' ⟨rfl, rfl⟩
    have hdl : (cs.drop ((i + 1) * 4)).length = (n - (i + 1)) * 4 := by rw [List.length_drop, hcl]; omega
    have hb' : (w.drewN 1).heap[blk]? = some (.cells cur T (0, 0)) := hb
    have e1 := setCells_eq_setRow (P := Try.prog) (o := i * 4) (vs := cs.drop ((i + 1) * 4)) hb' (by rw [hdl]; omega) (fun v hv => h1c v (List.mem_of_mem_drop hv))
    have e2 := setCells_eq_setRow (P := Try.prog) (o := (n - 1) * 4) (vs := [.int .i64 0, .int .i64 0, .int .i64 0, .bool false]) (setRow_heap (w.drewN 1) blk cur (cur.toList.take (i * 4) ++ cs.drop ((i + 1) * 4) ++ cur.toList.drop (i * 4 + (cs.drop ((i + 1) * 4)).length)).toArray T (0, 0) hb') (by simp [hcl]; omega) (by simp [Value.oneCell'])
    refine ⟨1, _, ?_, by omega, rfl, (congrArg (fun W => World.setCells W blk ((n - 1) * 4) [.int .i64 0, .int .i64 0, .int .i64 0, .bool false]) e1).trans (e2.trans (setRow_setRow _ _ _ _)), fun j v hj => ?_⟩
    · simp [hcl]; omega
    · have hjl : j < (cs.take (i * 4) ++ cs.drop ((i + 1) * 4)).length := (List.getElem?_eq_some_iff.1 hj).1
      have hjn : j < (n - 1) * 4 := by simp [hcl] at hjl; omega
      rw [List.getElem?_toArray, splice_at (by simp [hcl]; omega), if_pos hjn]
      show (cur.toList.take (i * 4) ++ cs.drop ((i + 1) * 4) ++ cur.toList.drop (i * 4 + (cs.drop ((i + 1) * 4)).length))[j]? = some v
      rw [splice_at (by rw [hdl]; simp; omega)]
      by_cases h1 : j < i * 4
      · rw [List.getElem?_append_left (by simp [hcl]; omega), List.getElem?_take, if_pos h1] at hj
        rw [if_pos h1]; simpa using hcs j v hj
      · rw [List.getElem?_append_right (by simp [hcl]; omega)] at hj
        rw [if_neg h1, if_pos (by rw [hdl]; omega), ← hj]
        congr 1; simp [hcl]; omega
end Go.Proofs

/- entry.Apply. -/
set_option linter.unusedVariables false
set_option linter.unusedSimpArgs false
set_option maxRecDepth 8000
set_option maxHeartbeats 16000000
namespace Go.Proofs.R1
open Go Go.Abs

abbrev apC : Con where
  α := List Er × Dl × EE
  kinds := [false, false, false]
  args := fun a => [.d (.sl 4 (erR a.1)), .d (.agg (dlD a.2.1)), .d (.agg (eeD a.2.2))]
  pre := fun a => a.1.length ≤ 1000000
  post := fun a r => r = ⟨[.own 4 (erR (applyR a.1 a.2.1 a.2.2).1), .d (i64 (applyR a.1 a.2.1 a.2.2).2)], []⟩
  clean := true
theorem vaPf_call {K : Kt} (hk : K 43 = some vaC) {np fid : Nat} {M : Mem} {nx : D → Mem → Prop} (l : List Er) (hp : l.length ≤ 1000000) (hf : M fid = none) (hn : nx (bl (vaL l)) M) : semCall K np 43 [.sl 4 (erR l)] M fid nx :=
  call_fn hk rfl rfl (fun _ _ h => h) l rfl hp hf hn
theorem dlP_call {K : Kt} (hk : K 44 = some dlC) {np fid : Nat} {M : Mem} {nx : D → Mem → Prop} (d : Dl) (hf : M fid = none) (hn : nx (bl (dlV d)) M) : semCall K np 44 [.agg (dlD d)] M fid nx :=
  call_fn hk rfl rfl (fun _ _ h => h) d rfl trivial hf hn
theorem bs_call {K : Kt} (hk : K 47 = some bsC) {np fid : Nat} {M : Mem} {nx : D → Mem → Prop} (l : List Er) (x : Er) {xs : List D} (hx : xs = erD x) (hA : AscE l) (hp : l.length ≤ 1000000) (hf : ∀ j, M (fid + j) = none) (hn : nx (.tup [i64 (posE l x.1), bl (atE l x.1).isSome]) M) :
    semCall K np 47 [.sl 4 (erR l), .agg xs, .fn 48 [] []] M fid nx := by
  subst hx
  exact call_clR hk rfl rfl (l, x) rfl ⟨hA, hp⟩ hf (by rintro r rfl; exact hn)
theorem clo_call {K : Kt} (hk : K 49 = some cloC) {np fid : Nat} {M : Mem} {nx : D → Mem → Prop} (l : List Er) (hp : l.length ≤ 1000000) (hf : ∀ j, M (fid + j) = none) (hn : nx (.row fid) (upd M fid (some (.row 4 (erR l) true)))) :
    semCall K np 49 [.sl 4 (erR l)] M fid nx :=
  call_clR hk rfl rfl l rfl hp hf (by rintro r rfl; exact hn)
theorem ins_call {K : Kt} {f : FuncId} {k by' : Nat} (hk : K f = some (insC k by')) {np fid id idv : Nat} {M : Mem} {nx : D → Mem → Prop} {es : List (List D)} {e : List D} {i : Nat} {ex : Bool} (hm : M id = some (.row k es true)) (hv : M idv = some (.row k [e] ex)) (hne : id ≠ idv) (hnp : np ≤ id) (hk0 : 0 < k)
    (hi : i ≤ es.length) (hb : (es.length + 1) * by' ≤ 140737488355328) (hf : M fid = none) (hn : nx (.row fid) (upd (upd M id (some .dead)) fid (some (.row k (es.take i ++ [e] ++ es.drop i) true)))) : semCall K np f [.row id, i64 i, .row idv] M fid nx := by
  unfold semCall
  rw [hk]
  simp only [insC]
  unfold semIns
  simp only [hv, hm]
  exact ⟨trivial, hk0, hf, hne, hnp, trivial, ⟨by omega, by omega⟩, hb, by simpa using hn⟩
theorem del_call {K : Kt} {f : FuncId} {k : Nat} (hk : K f = some (delC k)) {np fid id : Nat} {M : Mem} {nx : D → Mem → Prop} {es : List (List D)} {i : Nat} {y : D} (hy : y = i64 ((i : Int) + 1)) (hm : M id = some (.row k es true)) (hnp : np ≤ id) (hk0 : 0 < k)
    (hi : i < es.length) (hb : es.length ≤ 4611686018427387904) (hf : M fid = none) (hn : nx (.row fid) (upd (upd M id (some .dead)) fid (some (.row k (es.take i ++ es.drop (i + 1)) true)))) : semCall K np f [.row id, i64 i, y] M fid nx := by
  subst hy
  unfold semCall
  rw [hk]
  simp only [delC]
  unfold semDel
  simp only [hm]
  exact ⟨trivial, hk0, hnp, hf, hb, trivial, ⟨by omega, by omega⟩, by simpa using hn⟩
theorem er_mod (r : Er) (c : Int) : splice (erD r) 1 [i64 c] = erD (modE r c) := rfl
theorem erR_set (l : List Er) (i : Nat) (x : Er) : (erR l).set i (erD x) = erR (l.set i x) := by simp [erR, List.map_set]
theorem ap_err {l : List Er} {d : Dl} {e : EE} {c : Int} (h : applyR l d e = ([], c)) : ownP (fun r => r = ⟨[.own 4 (erR (applyR l d e).1), .d (i64 (applyR l d e).2)], []⟩) ⟨[.d .nils, .d (i64 c)], []⟩ :=
  ⟨_, rfl, by rw [h]; exact .z _ _ _ (.refl _), rfl⟩
theorem ap_own {l : List Er} {d : Dl} {e : EE} {m : List Er} {R : List (List D)} (h : applyR l d e = (m, 0)) (hR : R = erR m) : ownP (fun r => r = ⟨[.own 4 (erR (applyR l d e).1), .d (i64 (applyR l d e).2)], []⟩) ⟨[.own 4 R, .d (i64 0)], []⟩ :=
  ⟨_, rfl, by rw [h, hR]; exact .refl _, rfl⟩
theorem ap_ok : CallOk Try.prog 22 apC := by
  refine ok_of_body_own 146 3 Try.func22 rfl (by decide) Try.ntmps22 (by intro a h; exact ⟨rfl, rfl⟩) (by decide) (by rintro _ a r _ rfl; simpa [plainRD, plainD, plainC] using erR_plain _) ?_
  rintro ⟨(l : List Er), ⟨d1, d2⟩, ⟨⟨e1, e2, e3⟩, kd, ⟨ca, ce, pa⟩, to⟩⟩ hl
  simp only [apC, dlD, eeD] at hl ⊢
  obtain ⟨d, hd⟩ : ∃ d : Dl, d = (d1, d2) := ⟨_, rfl⟩
  obtain ⟨e, he⟩ : ∃ e : EE, e = ((e1, e2, e3), kd, (ca, ce, pa), to) := ⟨_, rfl⟩
  rw [← hd, ← he]
  simp only [initE, initMm, List.length_cons, List.length_nil, Nat.reduceAdd]
  have s1 : vaC.srt = none := rfl
  have c1 : vaC.clean = true := rfl
  have s2 : dlC.srt = none := rfl
  have c2 : dlC.clean = true := rfl
  have s3 : enC.srt = none := rfl
  have c3 : enC.clean = true := rfl
  have s4 : ceC.srt = none := rfl
  have c4 : ceC.clean = true := rfl
  have hK : KOk Try.prog (kOf [(43, vaC), (44, dlC), (45, enC), (46, ceC), (47, bsC), (49, cloC), (51, insC 4 32), (50, delC 4)]) := kOk_cons vaPf_ok (kOk_cons dlP_ok (kOk_cons enP_ok (kOk_cons ce_ok (kOk_cons bs_ok (kOk_cons clo_ok (kOk_ins ins_ok (kOk_del del_ok kOk_nil)))))))
  repeat' (first
    | (with_reducible refine aw_cut (x := .block _ _) (fun s' => (vaL l = true ∧ dlV d = true ∧ badE d e = 0) ∧ Weak 146 3 s' ⟨envOf [(0, .sl 4 (erR l)), (4, .box 100 0), (5, .box 101 0), (6, .nils), (7, i64 0)], memOf [(100, .cells [i64 d1, i64 d2]), (101, .cells [i64 e1, i64 e2, i64 e3, i64 kd, i64 ca, i64 ce, i64 pa, i64 to])], 200⟩) ?_ ?_)
    | (with_reducible refine aw_seq ?_)
    | (with_reducible refine kont_in ?_; simp only [go_sem, reduceIte, Nat.reduceLT, Nat.reduceEqDiff, Nat.reduceAdd, Nat.reduceMul, Nat.reduceSub, Nat.reduceLeDiff, reduceCtorEq, s1, c1, s2, c2, s3, c3, s4, c4])
    | (with_reducible refine dKont_in ?_; simp only [go_sem, reduceIte, Nat.reduceLT, Nat.reduceEqDiff, Nat.reduceAdd, Nat.reduceMul, Nat.reduceSub, Nat.reduceLeDiff, reduceCtorEq, s1, c1, s2, c2, s3, c3, s4, c4])
    | (with_reducible refine aw_drw (by kernel_rfl) kOk_nil kDet_nil ?_; simp only [go_sem, reduceIte, Nat.reduceLT, Nat.reduceEqDiff, Nat.reduceAdd, Nat.reduceMul, Nat.reduceSub, Nat.reduceLeDiff, reduceCtorEq, s1, c1, s2, c2, s3, c3, s4, c4])
    | (with_reducible refine aw_reg hK ?_; simp only [go_sem, reduceIte, Nat.reduceLT, Nat.reduceEqDiff, Nat.reduceAdd, Nat.reduceMul, Nat.reduceSub, Nat.reduceLeDiff, reduceCtorEq, s1, c1, s2, c2, s3, c3, s4, c4])
    | (with_reducible refine aw_if ?_; simp only [go_sem, reduceIte, Nat.reduceLT, Nat.reduceEqDiff, Nat.reduceAdd, Nat.reduceMul, Nat.reduceSub, Nat.reduceLeDiff, reduceCtorEq, s1, c1, s2, c2, s3, c3, s4, c4])
    | (with_reducible refine aw_block ?_)
    | (with_reducible refine aw_ret ?_; (try simp only [thenQ, blockQ]); refine aw_ret' ?_; simp only [go_sem, reduceIte, Nat.reduceLT, Nat.reduceEqDiff, Nat.reduceAdd, Nat.reduceMul, Nat.reduceSub, Nat.reduceLeDiff, reduceCtorEq, s1, c1, s2, c2, s3, c3, s4, c4])
    | (with_reducible refine aw_exit ?_; simp only [thenQ, blockQ, reduceIte, Nat.reduceEqDiff])
    | (with_reducible refine aw_skip ?_; simp only [thenQ, blockQ])
    | (with_reducible refine gate_intro (fun h => ?_) (fun h => ?_) <;> simp only [h, go_sem, reduceIte, Nat.reduceLT, Nat.reduceEqDiff, Nat.reduceAdd, Nat.reduceMul, Nat.reduceSub, Nat.reduceLeDiff, reduceCtorEq, s1, c1, s2, c2, s3, c3, s4, c4] <;> (try simp only [decide_eq_true_eq, decide_eq_false_iff_not, Bool.not_true] at h))
    | (with_reducible refine chk_in (by kernel_rfl) ?_)
    | (with_reducible refine And.intro (And.intro (by omega) (by omega)) ?_)
    | (with_reducible refine And.intro (by omega) ?_)
    | (refine vaPf_call rfl l hl rfl ?_)
    | (refine dlP_call rfl (d1, d2) rfl ?_)
    | (refine enP_call rfl (ca, ce, pa) rfl ?_)
    | (refine ce_call rfl to rfl ?_)
    | (rw [get_in]; rotate_left; omega; simp only [go_sem, reduceIte, Nat.reduceLT, Nat.reduceEqDiff, Nat.reduceAdd, Nat.reduceMul, Nat.reduceSub, Nat.reduceLeDiff, reduceCtorEq, s1, c1, s2, c2, s3, c3, s4, c4])
    | fail)
  case refine_2 =>
    rintro s' ⟨⟨hv, hdl, hb⟩, hwk⟩
    refine aw_weak hwk ?_
    have hA := (vaL_iff.1 hv).2.2
    have hR : applyR l d e = applyB l d e := by simp [applyR, hv, hdl, hb]
    have hl3 := (vaL_iff.1 hv).1
    have hpl := posE_le l (ca, ce, pa)
    have hwp := wrS (i := posE l (ca, ce, pa)) (by omega)
    have hkd : kd = 1 ∨ kd = 2 ∨ kd = 3 := by
      have h1 : ¬(kd < 1 ∨ 3 < kd) := fun hh => by
        have : badE d e = 2 := by unfold badE; rw [he]; rw [if_pos]; rcases hh with hh | hh; exact .inl hh; exact .inr (.inl hh)
        omega
      omega
    have s5 : bsC.srt = none := rfl
    have c5 : bsC.clean = true := rfl
    have k1 : ((1 : Int) != 1) = false := rfl
    have k2 : ((2 : Int) != 1) = true := rfl
    have k3 : ((3 : Int) != 1) = true := rfl
    have k4 : ((1 : Int) == 2) = false := rfl
    have k5 : ((1 : Int) == 3) = false := rfl
    have k6 : ((3 : Int) == 2) = false := rfl
    cases hat : atE l (ca, ce, pa) with
    | some r =>
      obtain ⟨hr, h0⟩ := atE_some.1 hat
      have hlt : posE l (ca, ce, pa) < l.length := (List.getElem?_eq_some_iff.1 hr).1
      generalize hp : posE l (ca, ce, pa) = p at *
      obtain ⟨⟨r1, r2, r3⟩, r4⟩ := r
      rcases hkd with rfl | rfl | rfl
      · repeat' (first
    | (with_reducible refine aw_seq ?_)
    | (with_reducible refine kont_in ?_; simp only [go_sem, reduceIte, Nat.reduceLT, Nat.reduceEqDiff, Nat.reduceAdd, Nat.reduceMul, Nat.reduceSub, Nat.reduceLeDiff, reduceCtorEq, s5, c5, hat, hr, hp, hwp, erD, k1, k2, k3, k4, k5, k6, Option.isSome_none])
    | (with_reducible refine dKont_in ?_; simp only [go_sem, reduceIte, Nat.reduceLT, Nat.reduceEqDiff, Nat.reduceAdd, Nat.reduceMul, Nat.reduceSub, Nat.reduceLeDiff, reduceCtorEq, s5, c5, hat, hr, hp, hwp, erD, k1, k2, k3, k4, k5, k6, Option.isSome_none])
    | (with_reducible refine aw_drw (by kernel_rfl) kOk_nil kDet_nil ?_; simp only [go_sem, reduceIte, Nat.reduceLT, Nat.reduceEqDiff, Nat.reduceAdd, Nat.reduceMul, Nat.reduceSub, Nat.reduceLeDiff, reduceCtorEq, s5, c5, hat, hr, hp, hwp, erD, k1, k2, k3, k4, k5, k6, Option.isSome_none])
    | (with_reducible refine aw_reg hK ?_; simp only [go_sem, reduceIte, Nat.reduceLT, Nat.reduceEqDiff, Nat.reduceAdd, Nat.reduceMul, Nat.reduceSub, Nat.reduceLeDiff, reduceCtorEq, s5, c5, hat, hr, hp, hwp, erD, k1, k2, k3, k4, k5, k6, Option.isSome_none])
    | (with_reducible refine aw_if ?_; simp only [go_sem, reduceIte, Nat.reduceLT, Nat.reduceEqDiff, Nat.reduceAdd, Nat.reduceMul, Nat.reduceSub, Nat.reduceLeDiff, reduceCtorEq, s5, c5, hat, hr, hp, hwp, erD, k1, k2, k3, k4, k5, k6, Option.isSome_none])
    | (with_reducible refine aw_block ?_)
    | (with_reducible refine aw_ret ?_; (try simp only [thenQ, blockQ]); refine aw_ret' ?_; simp only [go_sem, reduceIte, Nat.reduceLT, Nat.reduceEqDiff, Nat.reduceAdd, Nat.reduceMul, Nat.reduceSub, Nat.reduceLeDiff, reduceCtorEq, s5, c5, hat, hr, hp, hwp, erD, k1, k2, k3, k4, k5, k6, Option.isSome_none])
    | (with_reducible refine aw_exit ?_; simp only [thenQ, blockQ, reduceIte, Nat.reduceEqDiff])
    | (with_reducible refine aw_skip ?_; simp only [thenQ, blockQ])
    | (with_reducible refine gate_intro (fun h => ?_) (fun h => ?_) <;> simp only [h, go_sem, reduceIte, Nat.reduceLT, Nat.reduceEqDiff, Nat.reduceAdd, Nat.reduceMul, Nat.reduceSub, Nat.reduceLeDiff, reduceCtorEq, s5, c5, hat, hr, hp, hwp, erD, k1, k2, k3, k4, k5, k6, Option.isSome_none] <;> (try simp only [decide_eq_true_eq, decide_eq_false_iff_not, Bool.not_true] at h))
    | (with_reducible refine chk_in (by kernel_rfl) ?_)
    | (with_reducible refine And.intro (And.intro (by omega) (by omega)) ?_)
    | (with_reducible refine And.intro (by omega) ?_)
    | (refine bs_call rfl l ((ca, ce, pa), decide (e1 > d1)) rfl hA hl (memOf_free rfl) ?_)
    | (refine clo_call rfl l hl (memOf_free rfl) ?_)
    | (rw [get_in]; rotate_left; omega; simp only [go_sem, reduceIte, Nat.reduceLT, Nat.reduceEqDiff, Nat.reduceAdd, Nat.reduceMul, Nat.reduceSub, Nat.reduceLeDiff, reduceCtorEq, s5, c5, hat, hr, hp, hwp, erD, k1, k2, k3, k4, k5, k6, Option.isSome_none])
    | fail)
        · refine ap_err ?_
          simp at h; rw [hR]; simp [applyB, he, hat, h]
        · refine ap_err ?_
          simp at h; rw [hR]; simp [applyB, he, hat, h]
      · repeat' (first
    | (with_reducible refine aw_seq ?_)
    | (with_reducible refine kont_in ?_; simp only [go_sem, reduceIte, Nat.reduceLT, Nat.reduceEqDiff, Nat.reduceAdd, Nat.reduceMul, Nat.reduceSub, Nat.reduceLeDiff, reduceCtorEq, s5, c5, hat, hr, hp, hwp, erD, k1, k2, k3, k4, k5, k6, Option.isSome_none])
    | (with_reducible refine dKont_in ?_; simp only [go_sem, reduceIte, Nat.reduceLT, Nat.reduceEqDiff, Nat.reduceAdd, Nat.reduceMul, Nat.reduceSub, Nat.reduceLeDiff, reduceCtorEq, s5, c5, hat, hr, hp, hwp, erD, k1, k2, k3, k4, k5, k6, Option.isSome_none])
    | (with_reducible refine aw_drw (by kernel_rfl) kOk_nil kDet_nil ?_; simp only [go_sem, reduceIte, Nat.reduceLT, Nat.reduceEqDiff, Nat.reduceAdd, Nat.reduceMul, Nat.reduceSub, Nat.reduceLeDiff, reduceCtorEq, s5, c5, hat, hr, hp, hwp, erD, k1, k2, k3, k4, k5, k6, Option.isSome_none])
    | (with_reducible refine aw_reg hK ?_; simp only [go_sem, reduceIte, Nat.reduceLT, Nat.reduceEqDiff, Nat.reduceAdd, Nat.reduceMul, Nat.reduceSub, Nat.reduceLeDiff, reduceCtorEq, s5, c5, hat, hr, hp, hwp, erD, k1, k2, k3, k4, k5, k6, Option.isSome_none])
    | (with_reducible refine aw_if ?_; simp only [go_sem, reduceIte, Nat.reduceLT, Nat.reduceEqDiff, Nat.reduceAdd, Nat.reduceMul, Nat.reduceSub, Nat.reduceLeDiff, reduceCtorEq, s5, c5, hat, hr, hp, hwp, erD, k1, k2, k3, k4, k5, k6, Option.isSome_none])
    | (with_reducible refine aw_block ?_)
    | (with_reducible refine aw_ret ?_; (try simp only [thenQ, blockQ]); refine aw_ret' ?_; simp only [go_sem, reduceIte, Nat.reduceLT, Nat.reduceEqDiff, Nat.reduceAdd, Nat.reduceMul, Nat.reduceSub, Nat.reduceLeDiff, reduceCtorEq, s5, c5, hat, hr, hp, hwp, erD, k1, k2, k3, k4, k5, k6, Option.isSome_none])
    | (with_reducible refine aw_exit ?_; simp only [thenQ, blockQ, reduceIte, Nat.reduceEqDiff])
    | (with_reducible refine aw_skip ?_; simp only [thenQ, blockQ])
    | (with_reducible refine gate_intro (fun h => ?_) (fun h => ?_) <;> simp only [h, go_sem, reduceIte, Nat.reduceLT, Nat.reduceEqDiff, Nat.reduceAdd, Nat.reduceMul, Nat.reduceSub, Nat.reduceLeDiff, reduceCtorEq, s5, c5, hat, hr, hp, hwp, erD, k1, k2, k3, k4, k5, k6, Option.isSome_none] <;> (try simp only [decide_eq_true_eq, decide_eq_false_iff_not, Bool.not_true] at h))
    | (with_reducible refine chk_in (by kernel_rfl) ?_)
    | (with_reducible refine And.intro (And.intro (by omega) (by omega)) ?_)
    | (with_reducible refine And.intro (by omega) ?_)
    | (refine bs_call rfl l ((ca, ce, pa), decide (e1 > d1)) rfl hA hl (memOf_free rfl) ?_)
    | (refine clo_call rfl l hl (memOf_free rfl) ?_)
    | (refine del_call (k := 4) (es := erR l) rfl rfl rfl (by decide) (by decide) (by simpa [erR] using hlt) (by simp [erR]; omega) rfl ?_)
    | (rw [get_in]; rotate_left; omega; simp only [go_sem, reduceIte, Nat.reduceLT, Nat.reduceEqDiff, Nat.reduceAdd, Nat.reduceMul, Nat.reduceSub, Nat.reduceLeDiff, reduceCtorEq, s5, c5, hat, hr, hp, hwp, erD, k1, k2, k3, k4, k5, k6, Option.isSome_none])
    | fail)
        · refine ap_err ?_
          simp at h; rw [hR]; simp [applyB, he, hat, h]
        · simp at h
          refine ap_own (m := outE l p) ?_ rfl
          rw [hR]; simp [applyB, he, hat, hp, h]
      · repeat' (first
    | (with_reducible refine aw_seq ?_)
    | (with_reducible refine kont_in ?_; simp only [go_sem, reduceIte, Nat.reduceLT, Nat.reduceEqDiff, Nat.reduceAdd, Nat.reduceMul, Nat.reduceSub, Nat.reduceLeDiff, reduceCtorEq, s5, c5, hat, hr, hp, hwp, erD, k1, k2, k3, k4, k5, k6, Option.isSome_none])
    | (with_reducible refine dKont_in ?_; simp only [go_sem, reduceIte, Nat.reduceLT, Nat.reduceEqDiff, Nat.reduceAdd, Nat.reduceMul, Nat.reduceSub, Nat.reduceLeDiff, reduceCtorEq, s5, c5, hat, hr, hp, hwp, erD, k1, k2, k3, k4, k5, k6, Option.isSome_none])
    | (with_reducible refine aw_drw (by kernel_rfl) kOk_nil kDet_nil ?_; simp only [go_sem, reduceIte, Nat.reduceLT, Nat.reduceEqDiff, Nat.reduceAdd, Nat.reduceMul, Nat.reduceSub, Nat.reduceLeDiff, reduceCtorEq, s5, c5, hat, hr, hp, hwp, erD, k1, k2, k3, k4, k5, k6, Option.isSome_none])
    | (with_reducible refine aw_reg hK ?_; simp only [go_sem, reduceIte, Nat.reduceLT, Nat.reduceEqDiff, Nat.reduceAdd, Nat.reduceMul, Nat.reduceSub, Nat.reduceLeDiff, reduceCtorEq, s5, c5, hat, hr, hp, hwp, erD, k1, k2, k3, k4, k5, k6, Option.isSome_none])
    | (with_reducible refine aw_if ?_; simp only [go_sem, reduceIte, Nat.reduceLT, Nat.reduceEqDiff, Nat.reduceAdd, Nat.reduceMul, Nat.reduceSub, Nat.reduceLeDiff, reduceCtorEq, s5, c5, hat, hr, hp, hwp, erD, k1, k2, k3, k4, k5, k6, Option.isSome_none])
    | (with_reducible refine aw_block ?_)
    | (with_reducible refine aw_ret ?_; (try simp only [thenQ, blockQ]); refine aw_ret' ?_; simp only [go_sem, reduceIte, Nat.reduceLT, Nat.reduceEqDiff, Nat.reduceAdd, Nat.reduceMul, Nat.reduceSub, Nat.reduceLeDiff, reduceCtorEq, s5, c5, hat, hr, hp, hwp, erD, k1, k2, k3, k4, k5, k6, Option.isSome_none])
    | (with_reducible refine aw_exit ?_; simp only [thenQ, blockQ, reduceIte, Nat.reduceEqDiff])
    | (with_reducible refine aw_skip ?_; simp only [thenQ, blockQ])
    | (with_reducible refine gate_intro (fun h => ?_) (fun h => ?_) <;> simp only [h, go_sem, reduceIte, Nat.reduceLT, Nat.reduceEqDiff, Nat.reduceAdd, Nat.reduceMul, Nat.reduceSub, Nat.reduceLeDiff, reduceCtorEq, s5, c5, hat, hr, hp, hwp, erD, k1, k2, k3, k4, k5, k6, Option.isSome_none] <;> (try simp only [decide_eq_true_eq, decide_eq_false_iff_not, Bool.not_true] at h))
    | (with_reducible refine chk_in (by kernel_rfl) ?_)
    | (with_reducible refine And.intro (And.intro (by omega) (by omega)) ?_)
    | (with_reducible refine And.intro (by omega) ?_)
    | (refine bs_call rfl l ((ca, ce, pa), decide (e1 > d1)) rfl hA hl (memOf_free rfl) ?_)
    | (refine clo_call rfl l hl (memOf_free rfl) ?_)
    | (rw [get_in]; rotate_left; omega; simp only [go_sem, reduceIte, Nat.reduceLT, Nat.reduceEqDiff, Nat.reduceAdd, Nat.reduceMul, Nat.reduceSub, Nat.reduceLeDiff, reduceCtorEq, s5, c5, hat, hr, hp, hwp, erD, k1, k2, k3, k4, k5, k6, Option.isSome_none])
    | fail)
        · refine ap_err ?_
          simp at h; rw [hR]; simp [applyB, he, hat, h]
        · simp at h
          refine ap_own (m := l.set p (modE ((r1, r2, r3), r4) to)) ?_ (by rw [← erR_set]; rfl)
          rw [hR]; simp [applyB, he, hat, hp, h]
    | none =>
      rcases hkd with rfl | rfl | rfl
      · repeat' (first
    | (with_reducible refine aw_seq ?_)
    | (with_reducible refine kont_in ?_; simp only [go_sem, reduceIte, Nat.reduceLT, Nat.reduceEqDiff, Nat.reduceAdd, Nat.reduceMul, Nat.reduceSub, Nat.reduceLeDiff, reduceCtorEq, s5, c5, hat, hwp, k1, k2, k3, k4, k5, k6, Option.isSome_none])
    | (with_reducible refine dKont_in ?_; simp only [go_sem, reduceIte, Nat.reduceLT, Nat.reduceEqDiff, Nat.reduceAdd, Nat.reduceMul, Nat.reduceSub, Nat.reduceLeDiff, reduceCtorEq, s5, c5, hat, hwp, k1, k2, k3, k4, k5, k6, Option.isSome_none])
    | (with_reducible refine aw_drw (by kernel_rfl) kOk_nil kDet_nil ?_; simp only [go_sem, reduceIte, Nat.reduceLT, Nat.reduceEqDiff, Nat.reduceAdd, Nat.reduceMul, Nat.reduceSub, Nat.reduceLeDiff, reduceCtorEq, s5, c5, hat, hwp, k1, k2, k3, k4, k5, k6, Option.isSome_none])
    | (with_reducible refine aw_reg hK ?_; simp only [go_sem, reduceIte, Nat.reduceLT, Nat.reduceEqDiff, Nat.reduceAdd, Nat.reduceMul, Nat.reduceSub, Nat.reduceLeDiff, reduceCtorEq, s5, c5, hat, hwp, k1, k2, k3, k4, k5, k6, Option.isSome_none])
    | (with_reducible refine aw_if ?_; simp only [go_sem, reduceIte, Nat.reduceLT, Nat.reduceEqDiff, Nat.reduceAdd, Nat.reduceMul, Nat.reduceSub, Nat.reduceLeDiff, reduceCtorEq, s5, c5, hat, hwp, k1, k2, k3, k4, k5, k6, Option.isSome_none])
    | (with_reducible refine aw_block ?_)
    | (with_reducible refine aw_ret ?_; (try simp only [thenQ, blockQ]); refine aw_ret' ?_; simp only [go_sem, reduceIte, Nat.reduceLT, Nat.reduceEqDiff, Nat.reduceAdd, Nat.reduceMul, Nat.reduceSub, Nat.reduceLeDiff, reduceCtorEq, s5, c5, hat, hwp, k1, k2, k3, k4, k5, k6, Option.isSome_none])
    | (with_reducible refine aw_exit ?_; simp only [thenQ, blockQ, reduceIte, Nat.reduceEqDiff])
    | (with_reducible refine aw_skip ?_; simp only [thenQ, blockQ])
    | (with_reducible refine gate_intro (fun h => ?_) (fun h => ?_) <;> simp only [h, go_sem, reduceIte, Nat.reduceLT, Nat.reduceEqDiff, Nat.reduceAdd, Nat.reduceMul, Nat.reduceSub, Nat.reduceLeDiff, reduceCtorEq, s5, c5, hat, hwp, k1, k2, k3, k4, k5, k6, Option.isSome_none] <;> (try simp only [decide_eq_true_eq, decide_eq_false_iff_not, Bool.not_true] at h))
    | (with_reducible refine chk_in (by kernel_rfl) ?_)
    | (with_reducible refine And.intro (And.intro (by omega) (by omega)) ?_)
    | (with_reducible refine And.intro (by omega) ?_)
    | (refine bs_call rfl l ((ca, ce, pa), decide (e1 > d1)) rfl hA hl (memOf_free rfl) ?_)
    | (refine clo_call rfl l hl (memOf_free rfl) ?_)
    | (refine ins_call (k := 4) (es := erR l) rfl rfl rfl (by decide) (by decide) (by decide) (by simpa [erR] using hpl) (by simp [erR]; omega) rfl ?_)
    | (rw [get_in]; rotate_left; omega; simp only [go_sem, reduceIte, Nat.reduceLT, Nat.reduceEqDiff, Nat.reduceAdd, Nat.reduceMul, Nat.reduceSub, Nat.reduceLeDiff, reduceCtorEq, s5, c5, hat, hwp, k1, k2, k3, k4, k5, k6, Option.isSome_none])
    | fail)
        · refine ap_err ?_
          have h3 : l.length = 300 := by simp at h; omega
          rw [hR]; simp [applyB, he, hat, h3]
        · have h3 : l.length ≠ 300 := by simp at h; omega
          refine ap_own (m := insE l (apX d e)) ?_ ?_
          · rw [hR]; simp [applyB, he, hat, h3]
          · simp only [insE, apX, he, hd, erR, List.map_append, List.map_take, List.map_drop]; rfl
      · repeat' (first
    | (with_reducible refine aw_seq ?_)
    | (with_reducible refine kont_in ?_; simp only [go_sem, reduceIte, Nat.reduceLT, Nat.reduceEqDiff, Nat.reduceAdd, Nat.reduceMul, Nat.reduceSub, Nat.reduceLeDiff, reduceCtorEq, s5, c5, hat, hwp, k1, k2, k3, k4, k5, k6, Option.isSome_none])
    | (with_reducible refine dKont_in ?_; simp only [go_sem, reduceIte, Nat.reduceLT, Nat.reduceEqDiff, Nat.reduceAdd, Nat.reduceMul, Nat.reduceSub, Nat.reduceLeDiff, reduceCtorEq, s5, c5, hat, hwp, k1, k2, k3, k4, k5, k6, Option.isSome_none])
    | (with_reducible refine aw_drw (by kernel_rfl) kOk_nil kDet_nil ?_; simp only [go_sem, reduceIte, Nat.reduceLT, Nat.reduceEqDiff, Nat.reduceAdd, Nat.reduceMul, Nat.reduceSub, Nat.reduceLeDiff, reduceCtorEq, s5, c5, hat, hwp, k1, k2, k3, k4, k5, k6, Option.isSome_none])
    | (with_reducible refine aw_reg hK ?_; simp only [go_sem, reduceIte, Nat.reduceLT, Nat.reduceEqDiff, Nat.reduceAdd, Nat.reduceMul, Nat.reduceSub, Nat.reduceLeDiff, reduceCtorEq, s5, c5, hat, hwp, k1, k2, k3, k4, k5, k6, Option.isSome_none])
    | (with_reducible refine aw_if ?_; simp only [go_sem, reduceIte, Nat.reduceLT, Nat.reduceEqDiff, Nat.reduceAdd, Nat.reduceMul, Nat.reduceSub, Nat.reduceLeDiff, reduceCtorEq, s5, c5, hat, hwp, k1, k2, k3, k4, k5, k6, Option.isSome_none])
    | (with_reducible refine aw_block ?_)
    | (with_reducible refine aw_ret ?_; (try simp only [thenQ, blockQ]); refine aw_ret' ?_; simp only [go_sem, reduceIte, Nat.reduceLT, Nat.reduceEqDiff, Nat.reduceAdd, Nat.reduceMul, Nat.reduceSub, Nat.reduceLeDiff, reduceCtorEq, s5, c5, hat, hwp, k1, k2, k3, k4, k5, k6, Option.isSome_none])
    | (with_reducible refine aw_exit ?_; simp only [thenQ, blockQ, reduceIte, Nat.reduceEqDiff])
    | (with_reducible refine aw_skip ?_; simp only [thenQ, blockQ])
    | (with_reducible refine gate_intro (fun h => ?_) (fun h => ?_) <;> simp only [h, go_sem, reduceIte, Nat.reduceLT, Nat.reduceEqDiff, Nat.reduceAdd, Nat.reduceMul, Nat.reduceSub, Nat.reduceLeDiff, reduceCtorEq, s5, c5, hat, hwp, k1, k2, k3, k4, k5, k6, Option.isSome_none] <;> (try simp only [decide_eq_true_eq, decide_eq_false_iff_not, Bool.not_true] at h))
    | (with_reducible refine chk_in (by kernel_rfl) ?_)
    | (with_reducible refine And.intro (And.intro (by omega) (by omega)) ?_)
    | (with_reducible refine And.intro (by omega) ?_)
    | (refine bs_call rfl l ((ca, ce, pa), decide (e1 > d1)) rfl hA hl (memOf_free rfl) ?_)
    | (refine clo_call rfl l hl (memOf_free rfl) ?_)
    | (rw [get_in]; rotate_left; omega; simp only [go_sem, reduceIte, Nat.reduceLT, Nat.reduceEqDiff, Nat.reduceAdd, Nat.reduceMul, Nat.reduceSub, Nat.reduceLeDiff, reduceCtorEq, s5, c5, hat, hwp, k1, k2, k3, k4, k5, k6, Option.isSome_none])
    | fail)
        refine ap_err ?_
        rw [hR]; simp [applyB, he, hat]
      · repeat' (first
    | (with_reducible refine aw_seq ?_)
    | (with_reducible refine kont_in ?_; simp only [go_sem, reduceIte, Nat.reduceLT, Nat.reduceEqDiff, Nat.reduceAdd, Nat.reduceMul, Nat.reduceSub, Nat.reduceLeDiff, reduceCtorEq, s5, c5, hat, hwp, k1, k2, k3, k4, k5, k6, Option.isSome_none])
    | (with_reducible refine dKont_in ?_; simp only [go_sem, reduceIte, Nat.reduceLT, Nat.reduceEqDiff, Nat.reduceAdd, Nat.reduceMul, Nat.reduceSub, Nat.reduceLeDiff, reduceCtorEq, s5, c5, hat, hwp, k1, k2, k3, k4, k5, k6, Option.isSome_none])
    | (with_reducible refine aw_drw (by kernel_rfl) kOk_nil kDet_nil ?_; simp only [go_sem, reduceIte, Nat.reduceLT, Nat.reduceEqDiff, Nat.reduceAdd, Nat.reduceMul, Nat.reduceSub, Nat.reduceLeDiff, reduceCtorEq, s5, c5, hat, hwp, k1, k2, k3, k4, k5, k6, Option.isSome_none])
    | (with_reducible refine aw_reg hK ?_; simp only [go_sem, reduceIte, Nat.reduceLT, Nat.reduceEqDiff, Nat.reduceAdd, Nat.reduceMul, Nat.reduceSub, Nat.reduceLeDiff, reduceCtorEq, s5, c5, hat, hwp, k1, k2, k3, k4, k5, k6, Option.isSome_none])
    | (with_reducible refine aw_if ?_; simp only [go_sem, reduceIte, Nat.reduceLT, Nat.reduceEqDiff, Nat.reduceAdd, Nat.reduceMul, Nat.reduceSub, Nat.reduceLeDiff, reduceCtorEq, s5, c5, hat, hwp, k1, k2, k3, k4, k5, k6, Option.isSome_none])
    | (with_reducible refine aw_block ?_)
    | (with_reducible refine aw_ret ?_; (try simp only [thenQ, blockQ]); refine aw_ret' ?_; simp only [go_sem, reduceIte, Nat.reduceLT, Nat.reduceEqDiff, Nat.reduceAdd, Nat.reduceMul, Nat.reduceSub, Nat.reduceLeDiff, reduceCtorEq, s5, c5, hat, hwp, k1, k2, k3, k4, k5, k6, Option.isSome_none])
    | (with_reducible refine aw_exit ?_; simp only [thenQ, blockQ, reduceIte, Nat.reduceEqDiff])
    | (with_reducible refine aw_skip ?_; simp only [thenQ, blockQ])
    | (with_reducible refine gate_intro (fun h => ?_) (fun h => ?_) <;> simp only [h, go_sem, reduceIte, Nat.reduceLT, Nat.reduceEqDiff, Nat.reduceAdd, Nat.reduceMul, Nat.reduceSub, Nat.reduceLeDiff, reduceCtorEq, s5, c5, hat, hwp, k1, k2, k3, k4, k5, k6, Option.isSome_none] <;> (try simp only [decide_eq_true_eq, decide_eq_false_iff_not, Bool.not_true] at h))
    | (with_reducible refine chk_in (by kernel_rfl) ?_)
    | (with_reducible refine And.intro (And.intro (by omega) (by omega)) ?_)
    | (with_reducible refine And.intro (by omega) ?_)
    | (refine bs_call rfl l ((ca, ce, pa), decide (e1 > d1)) rfl hA hl (memOf_free rfl) ?_)
    | (refine clo_call rfl l hl (memOf_free rfl) ?_)
    | (rw [get_in]; rotate_left; omega; simp only [go_sem, reduceIte, Nat.reduceLT, Nat.reduceEqDiff, Nat.reduceAdd, Nat.reduceMul, Nat.reduceSub, Nat.reduceLeDiff, reduceCtorEq, s5, c5, hat, hwp, k1, k2, k3, k4, k5, k6, Option.isSome_none])
    | fail)
        refine ap_err ?_
        rw [hR]; simp [applyB, he, hat]
  all_goals try (clear hK s1 s2 s3 s4 c1 c2 c3 c4)
  all_goals try (first
    | (refine ap_err ?_; subst hd; subst he; simp only [Bool.not_eq_eq_eq_not, Bool.not_true, Bool.not_false, decide_eq_true_eq, bne_iff_ne, beq_iff_eq, beq_eq_false_iff_ne, bne_eq_false_iff_eq] at *; simp [applyR, badE, *]; done)
    | (refine ⟨⟨?_, ?_, ?_⟩, weak_in [(100, _), (101, _)] (by repeat' (first | trivial | constructor | rfl)) (by repeat' (first | trivial | constructor | rfl)) (by rfl) (by rfl) (by rfl)⟩ <;> (subst hd; subst he; simp only [Bool.not_eq_eq_eq_not, Bool.not_true, Bool.not_false, decide_eq_true_eq, bne_iff_ne, beq_iff_eq, beq_eq_false_iff_ne, bne_eq_false_iff_eq] at *; simp [badE, *]; done)))
end Go.Proofs.R1

/- The reference's Apply. -/
set_option linter.unusedVariables false
set_option linter.unusedSimpArgs false
set_option maxRecDepth 8000
set_option maxHeartbeats 16000000
namespace Go.Proofs.R1
open Go Go.Abs

theorem vaR_call {K : Kt} (hk : K 52 = some vaC) {np fid : Nat} {M : Mem} {nx : D → Mem → Prop} (l : List Er) (hp : l.length ≤ 1000000) (hf : M fid = none) (hn : nx (bl (vaL l)) M) : semCall K np 52 [.sl 4 (erR l)] M fid nx :=
  call_fn hk rfl rfl (fun _ _ h => h) l rfl hp hf hn
theorem dlR_call {K : Kt} (hk : K 42 = some dlC) {np fid : Nat} {M : Mem} {nx : D → Mem → Prop} (d : Dl) (hf : M fid = none) (hn : nx (bl (dlV d)) M) : semCall K np 42 [.agg (dlD d)] M fid nx :=
  call_fn hk rfl rfl (fun _ _ h => h) d rfl trivial hf hn
theorem ix_call {K : Kt} (hk : K 53 = some ixC) {np fid : Nat} {M : Mem} {nx : D → Mem → Prop} (l : List Er) (c p : Int) (hp : l.length ≤ 1000000) (hf : M fid = none) (hn : nx (i64 (ixE l c p)) M) : semCall K np 53 [.sl 4 (erR l), i64 c, i64 p] M fid nx :=
  call_fn hk rfl rfl (fun _ _ h => h) (l, c, p) rfl hp hf hn
theorem add_call {K : Kt} (hk : K 54 = some addC) {np fid : Nat} {M : Mem} {nx : D → Mem → Prop} (l : List Er) (x : Er) {d : D} {xs : List D} (hd : fz M true 4 d = some (.sl 4 (erR l))) (hx : xs = erD x) (hp : l.length ≤ 1000000) (hf : ∀ j, M (fid + j) = none) (hn : nx (.row fid) (upd M fid (some (.row 4 (erR (insE l x)) true)))) :
    semCall K np 54 [d, .agg xs] M fid nx := by
  subst hx
  exact call_clR hk rfl rfl (l, x) (by simp only [argsV, mapO, hd]; rfl) hp hf (by rintro r rfl; exact hn)
theorem wo_call {K : Kt} (hk : K 55 = some woC) {np fid : Nat} {M : Mem} {nx : D → Mem → Prop} (l : List Er) (i : Nat) (hp : l.length ≤ 1000000 ∧ i < l.length) (hf : ∀ j, M (fid + j) = none) (hn : nx (.row fid) (upd M fid (some (.row 4 (erR (outE l i)) true)))) :
    semCall K np 55 [.sl 4 (erR l), i64 i] M fid nx :=
  call_clR hk rfl rfl (l, i) rfl hp hf (by rintro r rfl; exact hn)
/-- The reference looks for equality, the program for the place. -/
theorem ixE_some {l : List Er} (hA : AscE l) {c z p : Int} {r : Er} (h : atE l (c, z, p) = some r) : ixE l c p = posE l (c, z, p) := by
  obtain ⟨hr, h0⟩ := atE_some.1 h
  rw [cmpE_eq] at h0
  have hlt := (List.getElem?_eq_some_iff.1 hr).1
  have : fndE l c p = posE l (c, z, p) := fndE_is (Nat.le_of_lt hlt) (fun k e hk he hh => by
    have := asc_lt hA hk he hr
    rw [cmpE_lt] at this; simp only at h0; omega) (fun e he => by rw [hr] at he; cases he; exact h0)
  rw [ixE, this, if_pos hlt]
theorem ixE_none {l : List Er} (hA : AscE l) {c z p : Int} (h : atE l (c, z, p) = none) : ixE l c p = -1 := by
  unfold ixE
  rw [if_neg]
  intro hlt
  have h1 := List.findIdx_getElem (w := hlt)
  have h2 := of_decide_eq_true h1
  exact atE_none hA h (List.getElem_mem _) (cmpE_eq.2 h2)
theorem ap_bad {l : List Er} {d : Dl} {e : EE} {c : Int} (hv : vaL l = true) (hdl : dlV d = true) (hb : badE d e = c) (hc : c ≠ 0) : applyR l d e = ([], c) := by
  unfold applyR
  rw [if_neg (by simp [hv, hdl]), if_pos (by rw [hb]; exact hc), hb]
theorem ceV_f {c : Int} : ceV c = false ↔ ¬ (1 ≤ c ∧ c ≤ 99) := by simp [ceV]
theorem rap_ok : CallOk Try.prog 23 apC := by
  refine ok_of_body_own 151 3 Try.func23 rfl (by decide) Try.ntmps23 (by intro a h; exact ⟨rfl, rfl⟩) (by decide) (by rintro _ a r _ rfl; simpa [plainRD, plainD, plainC] using erR_plain _) ?_
  rintro ⟨(l : List Er), ⟨d1, d2⟩, ⟨⟨e1, e2, e3⟩, kd, ⟨ca, ce, pa⟩, to⟩⟩ hl
  simp only [apC, dlD, eeD] at hl ⊢
  obtain ⟨d, hd⟩ : ∃ d : Dl, d = (d1, d2) := ⟨_, rfl⟩
  obtain ⟨e, he⟩ : ∃ e : EE, e = ((e1, e2, e3), kd, (ca, ce, pa), to) := ⟨_, rfl⟩
  rw [← hd, ← he]
  simp only [initE, initMm, List.length_cons, List.length_nil, Nat.reduceAdd]
  have s1 : vaC.srt = none := rfl
  have c1 : vaC.clean = true := rfl
  have s2 : dlC.srt = none := rfl
  have c2 : dlC.clean = true := rfl
  have s3 : enC.srt = none := rfl
  have c3 : enC.clean = true := rfl
  have s4 : ixC.srt = none := rfl
  have c4 : ixC.clean = true := rfl
  have s5 : addC.srt = none := rfl
  have c5 : addC.clean = true := rfl
  have s6 : woC.srt = none := rfl
  have c6 : woC.clean = true := rfl
  have hK : KOk Try.prog (kOf [(52, vaC), (42, dlC), (31, enC), (53, ixC), (54, addC), (55, woC)]) := kOk_cons vaR_ok (kOk_cons dlR_ok (kOk_cons enR_ok (kOk_cons ix_ok (kOk_cons add_ok (kOk_cons wo_ok kOk_nil)))))
  have hD : KDet (kOf [(52, vaC), (42, dlC), (31, enC), (53, ixC), (54, addC), (55, woC)]) := kDet_cons (fun _ _ => ⟨_, rfl, by simp, fun _ h => h⟩) (kDet_cons (fun _ _ => ⟨_, rfl, by simp, fun _ h => h⟩) (kDet_cons (fun _ _ => ⟨_, rfl, by simp, fun _ h => h⟩) (kDet_cons (fun _ _ => ⟨_, rfl, by simp, fun _ h => h⟩) (kDet_cons (fun _ _ => ⟨_, rfl, by simp, fun _ h => h⟩) (kDet_cons (fun _ _ => ⟨_, rfl, by simp, fun _ h => h⟩) kDet_nil)))))
  cases hv : vaL l with
  | false =>
    repeat' (first
    | (with_reducible refine aw_seq ?_)
    | (with_reducible refine kont_in ?_; simp only [go_sem, reduceIte, Nat.reduceLT, Nat.reduceEqDiff, Nat.reduceAdd, Nat.reduceMul, Nat.reduceSub, Nat.reduceLeDiff, reduceCtorEq, s1, c1, s2, c2, s3, c3, s4, c4, s5, c5, s6, c6, hv])
    | (with_reducible refine dKont_in ?_; simp only [go_sem, reduceIte, Nat.reduceLT, Nat.reduceEqDiff, Nat.reduceAdd, Nat.reduceMul, Nat.reduceSub, Nat.reduceLeDiff, reduceCtorEq, s1, c1, s2, c2, s3, c3, s4, c4, s5, c5, s6, c6, hv])
    | (with_reducible refine aw_drw (by kernel_rfl) hK hD ?_; simp only [go_sem, reduceIte, Nat.reduceLT, Nat.reduceEqDiff, Nat.reduceAdd, Nat.reduceMul, Nat.reduceSub, Nat.reduceLeDiff, reduceCtorEq, s1, c1, s2, c2, s3, c3, s4, c4, s5, c5, s6, c6, hv])
    | (with_reducible refine aw_reg hK ?_; simp only [go_sem, reduceIte, Nat.reduceLT, Nat.reduceEqDiff, Nat.reduceAdd, Nat.reduceMul, Nat.reduceSub, Nat.reduceLeDiff, reduceCtorEq, s1, c1, s2, c2, s3, c3, s4, c4, s5, c5, s6, c6, hv])
    | (with_reducible refine aw_if ?_; simp only [go_sem, reduceIte, Nat.reduceLT, Nat.reduceEqDiff, Nat.reduceAdd, Nat.reduceMul, Nat.reduceSub, Nat.reduceLeDiff, reduceCtorEq, s1, c1, s2, c2, s3, c3, s4, c4, s5, c5, s6, c6, hv])
    | (with_reducible refine aw_block ?_)
    | (with_reducible refine aw_ret ?_; (try simp only [thenQ, blockQ]); refine aw_ret' ?_; simp only [go_sem, reduceIte, Nat.reduceLT, Nat.reduceEqDiff, Nat.reduceAdd, Nat.reduceMul, Nat.reduceSub, Nat.reduceLeDiff, reduceCtorEq, s1, c1, s2, c2, s3, c3, s4, c4, s5, c5, s6, c6, hv])
    | (with_reducible refine aw_exit ?_; simp only [thenQ, blockQ, reduceIte, Nat.reduceEqDiff])
    | (with_reducible refine aw_skip ?_; simp only [thenQ, blockQ])
    | (with_reducible refine gate_intro (fun h => ?_) (fun h => ?_) <;> simp only [h, go_sem, reduceIte, Nat.reduceLT, Nat.reduceEqDiff, Nat.reduceAdd, Nat.reduceMul, Nat.reduceSub, Nat.reduceLeDiff, reduceCtorEq, s1, c1, s2, c2, s3, c3, s4, c4, s5, c5, s6, c6, hv] <;> (try simp only [decide_eq_true_eq, decide_eq_false_iff_not, Bool.not_true] at h))
    | (with_reducible refine chk_in (by kernel_rfl) ?_)
    | (with_reducible refine And.intro (And.intro (by omega) (by omega)) ?_)
    | (with_reducible refine And.intro (by omega) ?_)
    | (refine vaR_call rfl l hl rfl ?_)
    | (refine dlR_call rfl (d1, d2) rfl ?_)
    | (refine enR_call rfl (ca, ce, pa) rfl ?_)
    | (refine ix_call rfl l ca pa hl rfl ?_)
    | (rw [get_in]; rotate_left; omega; simp only [go_sem, reduceIte, Nat.reduceLT, Nat.reduceEqDiff, Nat.reduceAdd, Nat.reduceMul, Nat.reduceSub, Nat.reduceLeDiff, reduceCtorEq, s1, c1, s2, c2, s3, c3, s4, c4, s5, c5, s6, c6, hv])
    | fail)
    refine ap_err ?_
    simp [applyR, hv]
  | true =>
  cases hdl : dlV (d1, d2) with
  | false =>
    repeat' (first
    | (with_reducible refine aw_seq ?_)
    | (with_reducible refine kont_in ?_; simp only [go_sem, reduceIte, Nat.reduceLT, Nat.reduceEqDiff, Nat.reduceAdd, Nat.reduceMul, Nat.reduceSub, Nat.reduceLeDiff, reduceCtorEq, s1, c1, s2, c2, s3, c3, s4, c4, s5, c5, s6, c6, hv, hdl])
    | (with_reducible refine dKont_in ?_; simp only [go_sem, reduceIte, Nat.reduceLT, Nat.reduceEqDiff, Nat.reduceAdd, Nat.reduceMul, Nat.reduceSub, Nat.reduceLeDiff, reduceCtorEq, s1, c1, s2, c2, s3, c3, s4, c4, s5, c5, s6, c6, hv, hdl])
    | (with_reducible refine aw_drw (by kernel_rfl) hK hD ?_; simp only [go_sem, reduceIte, Nat.reduceLT, Nat.reduceEqDiff, Nat.reduceAdd, Nat.reduceMul, Nat.reduceSub, Nat.reduceLeDiff, reduceCtorEq, s1, c1, s2, c2, s3, c3, s4, c4, s5, c5, s6, c6, hv, hdl])
    | (with_reducible refine aw_reg hK ?_; simp only [go_sem, reduceIte, Nat.reduceLT, Nat.reduceEqDiff, Nat.reduceAdd, Nat.reduceMul, Nat.reduceSub, Nat.reduceLeDiff, reduceCtorEq, s1, c1, s2, c2, s3, c3, s4, c4, s5, c5, s6, c6, hv, hdl])
    | (with_reducible refine aw_if ?_; simp only [go_sem, reduceIte, Nat.reduceLT, Nat.reduceEqDiff, Nat.reduceAdd, Nat.reduceMul, Nat.reduceSub, Nat.reduceLeDiff, reduceCtorEq, s1, c1, s2, c2, s3, c3, s4, c4, s5, c5, s6, c6, hv, hdl])
    | (with_reducible refine aw_block ?_)
    | (with_reducible refine aw_ret ?_; (try simp only [thenQ, blockQ]); refine aw_ret' ?_; simp only [go_sem, reduceIte, Nat.reduceLT, Nat.reduceEqDiff, Nat.reduceAdd, Nat.reduceMul, Nat.reduceSub, Nat.reduceLeDiff, reduceCtorEq, s1, c1, s2, c2, s3, c3, s4, c4, s5, c5, s6, c6, hv, hdl])
    | (with_reducible refine aw_exit ?_; simp only [thenQ, blockQ, reduceIte, Nat.reduceEqDiff])
    | (with_reducible refine aw_skip ?_; simp only [thenQ, blockQ])
    | (with_reducible refine gate_intro (fun h => ?_) (fun h => ?_) <;> simp only [h, go_sem, reduceIte, Nat.reduceLT, Nat.reduceEqDiff, Nat.reduceAdd, Nat.reduceMul, Nat.reduceSub, Nat.reduceLeDiff, reduceCtorEq, s1, c1, s2, c2, s3, c3, s4, c4, s5, c5, s6, c6, hv, hdl] <;> (try simp only [decide_eq_true_eq, decide_eq_false_iff_not, Bool.not_true] at h))
    | (with_reducible refine chk_in (by kernel_rfl) ?_)
    | (with_reducible refine And.intro (And.intro (by omega) (by omega)) ?_)
    | (with_reducible refine And.intro (by omega) ?_)
    | (refine vaR_call rfl l hl rfl ?_)
    | (refine dlR_call rfl (d1, d2) rfl ?_)
    | (refine enR_call rfl (ca, ce, pa) rfl ?_)
    | (refine ix_call rfl l ca pa hl rfl ?_)
    | (rw [get_in]; rotate_left; omega; simp only [go_sem, reduceIte, Nat.reduceLT, Nat.reduceEqDiff, Nat.reduceAdd, Nat.reduceMul, Nat.reduceSub, Nat.reduceLeDiff, reduceCtorEq, s1, c1, s2, c2, s3, c3, s4, c4, s5, c5, s6, c6, hv, hdl])
    | fail)
    refine ap_err ?_
    simp [applyR, hd, hdl]
  | true =>
  have hdl' : dlV d = true := by rw [hd]; exact hdl
  have kw : ∀ {c : Int}, badE d e = c → c ≠ 0 → ownP (fun r => r = ⟨[.own 4 (erR (applyR l d e).1), .d (i64 (applyR l d e).2)], []⟩) ⟨[.d .nils, .d (i64 c)], []⟩ := fun hb hc => ap_err (ap_bad hv hdl' hb hc)
  repeat' (first
    | (with_reducible refine aw_cut (x := .seq (.region _ _ _) (.cond (.tmp 36) _ _)) (fun s' => ((kd = 1 ∨ kd = 2 ∨ kd = 3) ∧ enV (ca, ce, pa) = true) ∧ Weak 151 3 s' ⟨envOf [(0, .sl 4 (erR l)), (4, .box 100 0), (5, .box 101 0), (6, .nils), (7, i64 0)], memOf [(100, .cells [i64 d1, i64 d2]), (101, .cells [i64 e1, i64 e2, i64 e3, i64 kd, i64 ca, i64 ce, i64 pa, i64 to])], 200⟩) ?_ ?_)
    | (with_reducible refine aw_seq ?_)
    | (with_reducible refine kont_in ?_; simp only [go_sem, reduceIte, Nat.reduceLT, Nat.reduceEqDiff, Nat.reduceAdd, Nat.reduceMul, Nat.reduceSub, Nat.reduceLeDiff, reduceCtorEq, s1, c1, s2, c2, s3, c3, s4, c4, s5, c5, s6, c6, hv, hdl])
    | (with_reducible refine dKont_in ?_; simp only [go_sem, reduceIte, Nat.reduceLT, Nat.reduceEqDiff, Nat.reduceAdd, Nat.reduceMul, Nat.reduceSub, Nat.reduceLeDiff, reduceCtorEq, s1, c1, s2, c2, s3, c3, s4, c4, s5, c5, s6, c6, hv, hdl])
    | (with_reducible refine aw_drw (by kernel_rfl) hK hD ?_; simp only [go_sem, reduceIte, Nat.reduceLT, Nat.reduceEqDiff, Nat.reduceAdd, Nat.reduceMul, Nat.reduceSub, Nat.reduceLeDiff, reduceCtorEq, s1, c1, s2, c2, s3, c3, s4, c4, s5, c5, s6, c6, hv, hdl])
    | (with_reducible refine aw_reg hK ?_; simp only [go_sem, reduceIte, Nat.reduceLT, Nat.reduceEqDiff, Nat.reduceAdd, Nat.reduceMul, Nat.reduceSub, Nat.reduceLeDiff, reduceCtorEq, s1, c1, s2, c2, s3, c3, s4, c4, s5, c5, s6, c6, hv, hdl])
    | (with_reducible refine aw_if ?_; simp only [go_sem, reduceIte, Nat.reduceLT, Nat.reduceEqDiff, Nat.reduceAdd, Nat.reduceMul, Nat.reduceSub, Nat.reduceLeDiff, reduceCtorEq, s1, c1, s2, c2, s3, c3, s4, c4, s5, c5, s6, c6, hv, hdl])
    | (with_reducible refine aw_block ?_)
    | (with_reducible refine aw_ret ?_; (try simp only [thenQ, blockQ]); refine aw_ret' ?_; simp only [go_sem, reduceIte, Nat.reduceLT, Nat.reduceEqDiff, Nat.reduceAdd, Nat.reduceMul, Nat.reduceSub, Nat.reduceLeDiff, reduceCtorEq, s1, c1, s2, c2, s3, c3, s4, c4, s5, c5, s6, c6, hv, hdl])
    | (with_reducible refine aw_exit ?_; simp only [thenQ, blockQ, reduceIte, Nat.reduceEqDiff])
    | (with_reducible refine aw_skip ?_; simp only [thenQ, blockQ])
    | (with_reducible refine gate_intro (fun h => ?_) (fun h => ?_) <;> simp only [h, go_sem, reduceIte, Nat.reduceLT, Nat.reduceEqDiff, Nat.reduceAdd, Nat.reduceMul, Nat.reduceSub, Nat.reduceLeDiff, reduceCtorEq, s1, c1, s2, c2, s3, c3, s4, c4, s5, c5, s6, c6, hv, hdl] <;> (try simp only [decide_eq_true_eq, decide_eq_false_iff_not, Bool.not_true] at h))
    | (with_reducible refine chk_in (by kernel_rfl) ?_)
    | (with_reducible refine And.intro (And.intro (by omega) (by omega)) ?_)
    | (with_reducible refine And.intro (by omega) ?_)
    | (refine vaR_call rfl l hl rfl ?_)
    | (refine dlR_call rfl (d1, d2) rfl ?_)
    | (refine enR_call rfl (ca, ce, pa) rfl ?_)
    | (refine ix_call rfl l ca pa hl rfl ?_)
    | (rw [get_in]; rotate_left; omega; simp only [go_sem, reduceIte, Nat.reduceLT, Nat.reduceEqDiff, Nat.reduceAdd, Nat.reduceMul, Nat.reduceSub, Nat.reduceLeDiff, reduceCtorEq, s1, c1, s2, c2, s3, c3, s4, c4, s5, c5, s6, c6, hv, hdl])
    | fail)
  rotate_right
  · rintro s' ⟨⟨hkd, hen⟩, hwk⟩
    refine aw_weak hwk ?_
    clear hwk s'
    repeat' (first
    | (with_reducible refine aw_cut (x := .seq (.region _ _ _) (.cond (.tmp 57) _ _)) (fun s' => (¬ (kd = 3 ∧ (ceV to = false ∨ to = ce))) ∧ Weak 151 3 s' ⟨envOf [(0, .sl 4 (erR l)), (4, .box 100 0), (5, .box 101 0), (6, .nils), (7, i64 0)], memOf [(100, .cells [i64 d1, i64 d2]), (101, .cells [i64 e1, i64 e2, i64 e3, i64 kd, i64 ca, i64 ce, i64 pa, i64 to])], 200⟩) ?_ ?_)
    | (with_reducible refine aw_seq ?_)
    | (with_reducible refine kont_in ?_; simp only [go_sem, reduceIte, Nat.reduceLT, Nat.reduceEqDiff, Nat.reduceAdd, Nat.reduceMul, Nat.reduceSub, Nat.reduceLeDiff, reduceCtorEq, s1, c1, s2, c2, s3, c3, s4, c4, s5, c5, s6, c6, hv, hdl])
    | (with_reducible refine dKont_in ?_; simp only [go_sem, reduceIte, Nat.reduceLT, Nat.reduceEqDiff, Nat.reduceAdd, Nat.reduceMul, Nat.reduceSub, Nat.reduceLeDiff, reduceCtorEq, s1, c1, s2, c2, s3, c3, s4, c4, s5, c5, s6, c6, hv, hdl])
    | (with_reducible refine aw_drw (by kernel_rfl) hK hD ?_; simp only [go_sem, reduceIte, Nat.reduceLT, Nat.reduceEqDiff, Nat.reduceAdd, Nat.reduceMul, Nat.reduceSub, Nat.reduceLeDiff, reduceCtorEq, s1, c1, s2, c2, s3, c3, s4, c4, s5, c5, s6, c6, hv, hdl])
    | (with_reducible refine aw_reg hK ?_; simp only [go_sem, reduceIte, Nat.reduceLT, Nat.reduceEqDiff, Nat.reduceAdd, Nat.reduceMul, Nat.reduceSub, Nat.reduceLeDiff, reduceCtorEq, s1, c1, s2, c2, s3, c3, s4, c4, s5, c5, s6, c6, hv, hdl])
    | (with_reducible refine aw_if ?_; simp only [go_sem, reduceIte, Nat.reduceLT, Nat.reduceEqDiff, Nat.reduceAdd, Nat.reduceMul, Nat.reduceSub, Nat.reduceLeDiff, reduceCtorEq, s1, c1, s2, c2, s3, c3, s4, c4, s5, c5, s6, c6, hv, hdl])
    | (with_reducible refine aw_block ?_)
    | (with_reducible refine aw_ret ?_; (try simp only [thenQ, blockQ]); refine aw_ret' ?_; simp only [go_sem, reduceIte, Nat.reduceLT, Nat.reduceEqDiff, Nat.reduceAdd, Nat.reduceMul, Nat.reduceSub, Nat.reduceLeDiff, reduceCtorEq, s1, c1, s2, c2, s3, c3, s4, c4, s5, c5, s6, c6, hv, hdl])
    | (with_reducible refine aw_exit ?_; simp only [thenQ, blockQ, reduceIte, Nat.reduceEqDiff])
    | (with_reducible refine aw_skip ?_; simp only [thenQ, blockQ])
    | (with_reducible refine gate_intro (fun h => ?_) (fun h => ?_) <;> simp only [h, go_sem, reduceIte, Nat.reduceLT, Nat.reduceEqDiff, Nat.reduceAdd, Nat.reduceMul, Nat.reduceSub, Nat.reduceLeDiff, reduceCtorEq, s1, c1, s2, c2, s3, c3, s4, c4, s5, c5, s6, c6, hv, hdl] <;> (try simp only [decide_eq_true_eq, decide_eq_false_iff_not, Bool.not_true] at h))
    | (with_reducible refine chk_in (by kernel_rfl) ?_)
    | (with_reducible refine And.intro (And.intro (by omega) (by omega)) ?_)
    | (with_reducible refine And.intro (by omega) ?_)
    | (refine vaR_call rfl l hl rfl ?_)
    | (refine dlR_call rfl (d1, d2) rfl ?_)
    | (refine enR_call rfl (ca, ce, pa) rfl ?_)
    | (refine ix_call rfl l ca pa hl rfl ?_)
    | (rw [get_in]; rotate_left; omega; simp only [go_sem, reduceIte, Nat.reduceLT, Nat.reduceEqDiff, Nat.reduceAdd, Nat.reduceMul, Nat.reduceSub, Nat.reduceLeDiff, reduceCtorEq, s1, c1, s2, c2, s3, c3, s4, c4, s5, c5, s6, c6, hv, hdl])
    | fail)
    rotate_right
    · rintro s' ⟨h2, hwk⟩
      refine aw_weak hwk ?_
      clear hwk s'
      repeat' (first
    | (with_reducible refine aw_cut (x := .seq (.region _ _ _) (.cond (.tmp 70) _ _)) (fun s' => (¬ (e2 ≠ 0 ∧ e2 ≠ ce)) ∧ Weak 151 3 s' ⟨envOf [(0, .sl 4 (erR l)), (4, .box 100 0), (5, .box 101 0), (6, .nils), (7, i64 0)], memOf [(100, .cells [i64 d1, i64 d2]), (101, .cells [i64 e1, i64 e2, i64 e3, i64 kd, i64 ca, i64 ce, i64 pa, i64 to])], 200⟩) ?_ ?_)
    | (with_reducible refine aw_seq ?_)
    | (with_reducible refine kont_in ?_; simp only [go_sem, reduceIte, Nat.reduceLT, Nat.reduceEqDiff, Nat.reduceAdd, Nat.reduceMul, Nat.reduceSub, Nat.reduceLeDiff, reduceCtorEq, s1, c1, s2, c2, s3, c3, s4, c4, s5, c5, s6, c6, hv, hdl])
    | (with_reducible refine dKont_in ?_; simp only [go_sem, reduceIte, Nat.reduceLT, Nat.reduceEqDiff, Nat.reduceAdd, Nat.reduceMul, Nat.reduceSub, Nat.reduceLeDiff, reduceCtorEq, s1, c1, s2, c2, s3, c3, s4, c4, s5, c5, s6, c6, hv, hdl])
    | (with_reducible refine aw_drw (by kernel_rfl) hK hD ?_; simp only [go_sem, reduceIte, Nat.reduceLT, Nat.reduceEqDiff, Nat.reduceAdd, Nat.reduceMul, Nat.reduceSub, Nat.reduceLeDiff, reduceCtorEq, s1, c1, s2, c2, s3, c3, s4, c4, s5, c5, s6, c6, hv, hdl])
    | (with_reducible refine aw_reg hK ?_; simp only [go_sem, reduceIte, Nat.reduceLT, Nat.reduceEqDiff, Nat.reduceAdd, Nat.reduceMul, Nat.reduceSub, Nat.reduceLeDiff, reduceCtorEq, s1, c1, s2, c2, s3, c3, s4, c4, s5, c5, s6, c6, hv, hdl])
    | (with_reducible refine aw_if ?_; simp only [go_sem, reduceIte, Nat.reduceLT, Nat.reduceEqDiff, Nat.reduceAdd, Nat.reduceMul, Nat.reduceSub, Nat.reduceLeDiff, reduceCtorEq, s1, c1, s2, c2, s3, c3, s4, c4, s5, c5, s6, c6, hv, hdl])
    | (with_reducible refine aw_block ?_)
    | (with_reducible refine aw_ret ?_; (try simp only [thenQ, blockQ]); refine aw_ret' ?_; simp only [go_sem, reduceIte, Nat.reduceLT, Nat.reduceEqDiff, Nat.reduceAdd, Nat.reduceMul, Nat.reduceSub, Nat.reduceLeDiff, reduceCtorEq, s1, c1, s2, c2, s3, c3, s4, c4, s5, c5, s6, c6, hv, hdl])
    | (with_reducible refine aw_exit ?_; simp only [thenQ, blockQ, reduceIte, Nat.reduceEqDiff])
    | (with_reducible refine aw_skip ?_; simp only [thenQ, blockQ])
    | (with_reducible refine gate_intro (fun h => ?_) (fun h => ?_) <;> simp only [h, go_sem, reduceIte, Nat.reduceLT, Nat.reduceEqDiff, Nat.reduceAdd, Nat.reduceMul, Nat.reduceSub, Nat.reduceLeDiff, reduceCtorEq, s1, c1, s2, c2, s3, c3, s4, c4, s5, c5, s6, c6, hv, hdl] <;> (try simp only [decide_eq_true_eq, decide_eq_false_iff_not, Bool.not_true] at h))
    | (with_reducible refine chk_in (by kernel_rfl) ?_)
    | (with_reducible refine And.intro (And.intro (by omega) (by omega)) ?_)
    | (with_reducible refine And.intro (by omega) ?_)
    | (refine vaR_call rfl l hl rfl ?_)
    | (refine dlR_call rfl (d1, d2) rfl ?_)
    | (refine enR_call rfl (ca, ce, pa) rfl ?_)
    | (refine ix_call rfl l ca pa hl rfl ?_)
    | (rw [get_in]; rotate_left; omega; simp only [go_sem, reduceIte, Nat.reduceLT, Nat.reduceEqDiff, Nat.reduceAdd, Nat.reduceMul, Nat.reduceSub, Nat.reduceLeDiff, reduceCtorEq, s1, c1, s2, c2, s3, c3, s4, c4, s5, c5, s6, c6, hv, hdl])
    | fail)
      rotate_right
      · rintro s' ⟨h3, hwk⟩
        refine aw_weak hwk ?_
        clear hwk s'
        have hg : ¬ (kd < 1 ∨ 3 < kd ∨ enV (ca, ce, pa) = false ∨ kd = 3 ∧ (ceV to = false ∨ to = ce)) := by
          rintro (hh | hh | hh | hh)
          · omega
          · omega
          · rw [hen] at hh; cases hh
          · exact h2 hh
        cases h4 : decide (e1 > d2) with
        | true =>
          repeat' (first
    | (with_reducible refine aw_seq ?_)
    | (with_reducible refine kont_in ?_; simp only [go_sem, reduceIte, Nat.reduceLT, Nat.reduceEqDiff, Nat.reduceAdd, Nat.reduceMul, Nat.reduceSub, Nat.reduceLeDiff, reduceCtorEq, s1, c1, s2, c2, s3, c3, s4, c4, s5, c5, s6, c6, hv, hdl, h4])
    | (with_reducible refine dKont_in ?_; simp only [go_sem, reduceIte, Nat.reduceLT, Nat.reduceEqDiff, Nat.reduceAdd, Nat.reduceMul, Nat.reduceSub, Nat.reduceLeDiff, reduceCtorEq, s1, c1, s2, c2, s3, c3, s4, c4, s5, c5, s6, c6, hv, hdl, h4])
    | (with_reducible refine aw_drw (by kernel_rfl) hK hD ?_; simp only [go_sem, reduceIte, Nat.reduceLT, Nat.reduceEqDiff, Nat.reduceAdd, Nat.reduceMul, Nat.reduceSub, Nat.reduceLeDiff, reduceCtorEq, s1, c1, s2, c2, s3, c3, s4, c4, s5, c5, s6, c6, hv, hdl, h4])
    | (with_reducible refine aw_reg hK ?_; simp only [go_sem, reduceIte, Nat.reduceLT, Nat.reduceEqDiff, Nat.reduceAdd, Nat.reduceMul, Nat.reduceSub, Nat.reduceLeDiff, reduceCtorEq, s1, c1, s2, c2, s3, c3, s4, c4, s5, c5, s6, c6, hv, hdl, h4])
    | (with_reducible refine aw_if ?_; simp only [go_sem, reduceIte, Nat.reduceLT, Nat.reduceEqDiff, Nat.reduceAdd, Nat.reduceMul, Nat.reduceSub, Nat.reduceLeDiff, reduceCtorEq, s1, c1, s2, c2, s3, c3, s4, c4, s5, c5, s6, c6, hv, hdl, h4])
    | (with_reducible refine aw_block ?_)
    | (with_reducible refine aw_ret ?_; (try simp only [thenQ, blockQ]); refine aw_ret' ?_; simp only [go_sem, reduceIte, Nat.reduceLT, Nat.reduceEqDiff, Nat.reduceAdd, Nat.reduceMul, Nat.reduceSub, Nat.reduceLeDiff, reduceCtorEq, s1, c1, s2, c2, s3, c3, s4, c4, s5, c5, s6, c6, hv, hdl, h4])
    | (with_reducible refine aw_exit ?_; simp only [thenQ, blockQ, reduceIte, Nat.reduceEqDiff])
    | (with_reducible refine aw_skip ?_; simp only [thenQ, blockQ])
    | (with_reducible refine gate_intro (fun h => ?_) (fun h => ?_) <;> simp only [h, go_sem, reduceIte, Nat.reduceLT, Nat.reduceEqDiff, Nat.reduceAdd, Nat.reduceMul, Nat.reduceSub, Nat.reduceLeDiff, reduceCtorEq, s1, c1, s2, c2, s3, c3, s4, c4, s5, c5, s6, c6, hv, hdl, h4] <;> (try simp only [decide_eq_true_eq, decide_eq_false_iff_not, Bool.not_true] at h))
    | (with_reducible refine chk_in (by kernel_rfl) ?_)
    | (with_reducible refine And.intro (And.intro (by omega) (by omega)) ?_)
    | (with_reducible refine And.intro (by omega) ?_)
    | (refine vaR_call rfl l hl rfl ?_)
    | (refine dlR_call rfl (d1, d2) rfl ?_)
    | (refine enR_call rfl (ca, ce, pa) rfl ?_)
    | (refine ix_call rfl l ca pa hl rfl ?_)
    | (rw [get_in]; rotate_left; omega; simp only [go_sem, reduceIte, Nat.reduceLT, Nat.reduceEqDiff, Nat.reduceAdd, Nat.reduceMul, Nat.reduceSub, Nat.reduceLeDiff, reduceCtorEq, s1, c1, s2, c2, s3, c3, s4, c4, s5, c5, s6, c6, hv, hdl, h4])
    | fail)
          refine kw (c := 27) ?_ (by decide)
          simp only [Bool.not_eq_eq_eq_not, Bool.not_true, Bool.not_false, decide_eq_true_eq, bne_iff_ne, ne_eq, beq_iff_eq, beq_eq_false_iff_ne, bne_eq_false_iff_eq, gt_iff_lt] at h4
          unfold badE
          rw [he, hd, if_neg hg, if_neg (by simpa using h3), if_pos (by simpa using h4)]
        | false =>
          have hb : badE d e = 0 := by
            simp only [Bool.not_eq_eq_eq_not, Bool.not_true, Bool.not_false, decide_eq_true_eq, bne_iff_ne, ne_eq, beq_iff_eq, beq_eq_false_iff_ne, bne_eq_false_iff_eq, gt_iff_lt] at h4
            unfold badE
            rw [he, hd, if_neg hg, if_neg (by simpa using h3), if_neg (by simpa using h4)]
          have hR : applyR l d e = applyB l d e := by simp [applyR, hv, hdl', hb]
          have hA := (vaL_iff.1 hv).2.2
          have hl3 := (vaL_iff.1 hv).1
          have hpl := posE_le l (ca, ce, pa)
          have k1 : ((1 : Int) != 1) = false := rfl
          have k2 : ((2 : Int) == 1) = false := rfl
          have k3 : ((3 : Int) == 1) = false := rfl
          have k6 : ((3 : Int) == 2) = false := rfl
          cases hat : atE l (ca, ce, pa) with
          | some r =>
            obtain ⟨hr, h0⟩ := atE_some.1 hat
            have hix := ixE_some hA hat
            have hlt : posE l (ca, ce, pa) < l.length := (List.getElem?_eq_some_iff.1 hr).1
            have hmv := move_eq hA hr to
            generalize hp : posE l (ca, ce, pa) = p at *
            obtain ⟨⟨r1, r2, r3⟩, r4⟩ := r
            have q1 : decide ((p : Int) ≥ 0) = true := by simp
            have q2 : decide ((p : Int) < 0) = false := by simp
            have hol : (outE l p).length ≤ 1000000 := by simp [outE]; omega
            rcases hkd with rfl | rfl | rfl
            · repeat' (first
    | (with_reducible refine aw_seq ?_)
    | (with_reducible refine kont_in ?_; simp only [go_sem, reduceIte, Nat.reduceLT, Nat.reduceEqDiff, Nat.reduceAdd, Nat.reduceMul, Nat.reduceSub, Nat.reduceLeDiff, reduceCtorEq, s1, c1, s2, c2, s3, c3, s4, c4, s5, c5, s6, c6, h4, hr, hix, q1, q2, erD, k1, k2, k3, k6])
    | (with_reducible refine dKont_in ?_; simp only [go_sem, reduceIte, Nat.reduceLT, Nat.reduceEqDiff, Nat.reduceAdd, Nat.reduceMul, Nat.reduceSub, Nat.reduceLeDiff, reduceCtorEq, s1, c1, s2, c2, s3, c3, s4, c4, s5, c5, s6, c6, h4, hr, hix, q1, q2, erD, k1, k2, k3, k6])
    | (with_reducible refine aw_drw (by kernel_rfl) hK hD ?_; simp only [go_sem, reduceIte, Nat.reduceLT, Nat.reduceEqDiff, Nat.reduceAdd, Nat.reduceMul, Nat.reduceSub, Nat.reduceLeDiff, reduceCtorEq, s1, c1, s2, c2, s3, c3, s4, c4, s5, c5, s6, c6, h4, hr, hix, q1, q2, erD, k1, k2, k3, k6])
    | (with_reducible refine aw_reg hK ?_; simp only [go_sem, reduceIte, Nat.reduceLT, Nat.reduceEqDiff, Nat.reduceAdd, Nat.reduceMul, Nat.reduceSub, Nat.reduceLeDiff, reduceCtorEq, s1, c1, s2, c2, s3, c3, s4, c4, s5, c5, s6, c6, h4, hr, hix, q1, q2, erD, k1, k2, k3, k6])
    | (with_reducible refine aw_if ?_; simp only [go_sem, reduceIte, Nat.reduceLT, Nat.reduceEqDiff, Nat.reduceAdd, Nat.reduceMul, Nat.reduceSub, Nat.reduceLeDiff, reduceCtorEq, s1, c1, s2, c2, s3, c3, s4, c4, s5, c5, s6, c6, h4, hr, hix, q1, q2, erD, k1, k2, k3, k6])
    | (with_reducible refine aw_block ?_)
    | (with_reducible refine aw_ret ?_; (try simp only [thenQ, blockQ]); refine aw_ret' ?_; simp only [go_sem, reduceIte, Nat.reduceLT, Nat.reduceEqDiff, Nat.reduceAdd, Nat.reduceMul, Nat.reduceSub, Nat.reduceLeDiff, reduceCtorEq, s1, c1, s2, c2, s3, c3, s4, c4, s5, c5, s6, c6, h4, hr, hix, q1, q2, erD, k1, k2, k3, k6])
    | (with_reducible refine aw_exit ?_; simp only [thenQ, blockQ, reduceIte, Nat.reduceEqDiff])
    | (with_reducible refine aw_skip ?_; simp only [thenQ, blockQ])
    | (with_reducible refine gate_intro (fun h => ?_) (fun h => ?_) <;> simp only [h, go_sem, reduceIte, Nat.reduceLT, Nat.reduceEqDiff, Nat.reduceAdd, Nat.reduceMul, Nat.reduceSub, Nat.reduceLeDiff, reduceCtorEq, s1, c1, s2, c2, s3, c3, s4, c4, s5, c5, s6, c6, h4, hr, hix, q1, q2, erD, k1, k2, k3, k6] <;> (try simp only [decide_eq_true_eq, decide_eq_false_iff_not, Bool.not_true] at h))
    | (with_reducible refine chk_in (by kernel_rfl) ?_)
    | (with_reducible refine And.intro (And.intro (by omega) (by omega)) ?_)
    | (with_reducible refine And.intro (by omega) ?_)
    | (refine vaR_call rfl l hl rfl ?_)
    | (refine dlR_call rfl (d1, d2) rfl ?_)
    | (refine enR_call rfl (ca, ce, pa) rfl ?_)
    | (refine ix_call rfl l ca pa hl rfl ?_)
    | (rw [get_in]; rotate_left; omega; simp only [go_sem, reduceIte, Nat.reduceLT, Nat.reduceEqDiff, Nat.reduceAdd, Nat.reduceMul, Nat.reduceSub, Nat.reduceLeDiff, reduceCtorEq, s1, c1, s2, c2, s3, c3, s4, c4, s5, c5, s6, c6, h4, hr, hix, q1, q2, erD, k1, k2, k3, k6])
    | fail)
              · refine ap_err ?_
                simp at h; rw [hR]; simp [applyB, he, hat, h]
              · refine ap_err ?_
                simp at h; rw [hR]; simp [applyB, he, hat, h]
            · repeat' (first
    | (with_reducible refine aw_seq ?_)
    | (with_reducible refine kont_in ?_; simp only [go_sem, reduceIte, Nat.reduceLT, Nat.reduceEqDiff, Nat.reduceAdd, Nat.reduceMul, Nat.reduceSub, Nat.reduceLeDiff, reduceCtorEq, s1, c1, s2, c2, s3, c3, s4, c4, s5, c5, s6, c6, h4, hr, hix, q1, q2, erD, k1, k2, k3, k6])
    | (with_reducible refine dKont_in ?_; simp only [go_sem, reduceIte, Nat.reduceLT, Nat.reduceEqDiff, Nat.reduceAdd, Nat.reduceMul, Nat.reduceSub, Nat.reduceLeDiff, reduceCtorEq, s1, c1, s2, c2, s3, c3, s4, c4, s5, c5, s6, c6, h4, hr, hix, q1, q2, erD, k1, k2, k3, k6])
    | (with_reducible refine aw_drw (by kernel_rfl) hK hD ?_; simp only [go_sem, reduceIte, Nat.reduceLT, Nat.reduceEqDiff, Nat.reduceAdd, Nat.reduceMul, Nat.reduceSub, Nat.reduceLeDiff, reduceCtorEq, s1, c1, s2, c2, s3, c3, s4, c4, s5, c5, s6, c6, h4, hr, hix, q1, q2, erD, k1, k2, k3, k6])
    | (with_reducible refine aw_reg hK ?_; simp only [go_sem, reduceIte, Nat.reduceLT, Nat.reduceEqDiff, Nat.reduceAdd, Nat.reduceMul, Nat.reduceSub, Nat.reduceLeDiff, reduceCtorEq, s1, c1, s2, c2, s3, c3, s4, c4, s5, c5, s6, c6, h4, hr, hix, q1, q2, erD, k1, k2, k3, k6])
    | (with_reducible refine aw_if ?_; simp only [go_sem, reduceIte, Nat.reduceLT, Nat.reduceEqDiff, Nat.reduceAdd, Nat.reduceMul, Nat.reduceSub, Nat.reduceLeDiff, reduceCtorEq, s1, c1, s2, c2, s3, c3, s4, c4, s5, c5, s6, c6, h4, hr, hix, q1, q2, erD, k1, k2, k3, k6])
    | (with_reducible refine aw_block ?_)
    | (with_reducible refine aw_ret ?_; (try simp only [thenQ, blockQ]); refine aw_ret' ?_; simp only [go_sem, reduceIte, Nat.reduceLT, Nat.reduceEqDiff, Nat.reduceAdd, Nat.reduceMul, Nat.reduceSub, Nat.reduceLeDiff, reduceCtorEq, s1, c1, s2, c2, s3, c3, s4, c4, s5, c5, s6, c6, h4, hr, hix, q1, q2, erD, k1, k2, k3, k6])
    | (with_reducible refine aw_exit ?_; simp only [thenQ, blockQ, reduceIte, Nat.reduceEqDiff])
    | (with_reducible refine aw_skip ?_; simp only [thenQ, blockQ])
    | (with_reducible refine gate_intro (fun h => ?_) (fun h => ?_) <;> simp only [h, go_sem, reduceIte, Nat.reduceLT, Nat.reduceEqDiff, Nat.reduceAdd, Nat.reduceMul, Nat.reduceSub, Nat.reduceLeDiff, reduceCtorEq, s1, c1, s2, c2, s3, c3, s4, c4, s5, c5, s6, c6, h4, hr, hix, q1, q2, erD, k1, k2, k3, k6] <;> (try simp only [decide_eq_true_eq, decide_eq_false_iff_not, Bool.not_true] at h))
    | (with_reducible refine chk_in (by kernel_rfl) ?_)
    | (with_reducible refine And.intro (And.intro (by omega) (by omega)) ?_)
    | (with_reducible refine And.intro (by omega) ?_)
    | (refine vaR_call rfl l hl rfl ?_)
    | (refine dlR_call rfl (d1, d2) rfl ?_)
    | (refine enR_call rfl (ca, ce, pa) rfl ?_)
    | (refine ix_call rfl l ca pa hl rfl ?_)
    | (refine wo_call rfl l p ⟨hl, hlt⟩ (memOf_free rfl) ?_)
    | (rw [get_in]; rotate_left; omega; simp only [go_sem, reduceIte, Nat.reduceLT, Nat.reduceEqDiff, Nat.reduceAdd, Nat.reduceMul, Nat.reduceSub, Nat.reduceLeDiff, reduceCtorEq, s1, c1, s2, c2, s3, c3, s4, c4, s5, c5, s6, c6, h4, hr, hix, q1, q2, erD, k1, k2, k3, k6])
    | fail)
              · refine ap_err ?_
                simp at h; rw [hR]; simp [applyB, he, hat, h]
              · simp at h
                refine ap_own (m := outE l p) ?_ rfl
                rw [hR]; simp [applyB, he, hat, hp, h]
            · repeat' (first
    | (with_reducible refine aw_seq ?_)
    | (with_reducible refine kont_in ?_; simp only [go_sem, reduceIte, Nat.reduceLT, Nat.reduceEqDiff, Nat.reduceAdd, Nat.reduceMul, Nat.reduceSub, Nat.reduceLeDiff, reduceCtorEq, s1, c1, s2, c2, s3, c3, s4, c4, s5, c5, s6, c6, h4, hr, hix, q1, q2, erD, k1, k2, k3, k6])
    | (with_reducible refine dKont_in ?_; simp only [go_sem, reduceIte, Nat.reduceLT, Nat.reduceEqDiff, Nat.reduceAdd, Nat.reduceMul, Nat.reduceSub, Nat.reduceLeDiff, reduceCtorEq, s1, c1, s2, c2, s3, c3, s4, c4, s5, c5, s6, c6, h4, hr, hix, q1, q2, erD, k1, k2, k3, k6])
    | (with_reducible refine aw_drw (by kernel_rfl) hK hD ?_; simp only [go_sem, reduceIte, Nat.reduceLT, Nat.reduceEqDiff, Nat.reduceAdd, Nat.reduceMul, Nat.reduceSub, Nat.reduceLeDiff, reduceCtorEq, s1, c1, s2, c2, s3, c3, s4, c4, s5, c5, s6, c6, h4, hr, hix, q1, q2, erD, k1, k2, k3, k6])
    | (with_reducible refine aw_reg hK ?_; simp only [go_sem, reduceIte, Nat.reduceLT, Nat.reduceEqDiff, Nat.reduceAdd, Nat.reduceMul, Nat.reduceSub, Nat.reduceLeDiff, reduceCtorEq, s1, c1, s2, c2, s3, c3, s4, c4, s5, c5, s6, c6, h4, hr, hix, q1, q2, erD, k1, k2, k3, k6])
    | (with_reducible refine aw_if ?_; simp only [go_sem, reduceIte, Nat.reduceLT, Nat.reduceEqDiff, Nat.reduceAdd, Nat.reduceMul, Nat.reduceSub, Nat.reduceLeDiff, reduceCtorEq, s1, c1, s2, c2, s3, c3, s4, c4, s5, c5, s6, c6, h4, hr, hix, q1, q2, erD, k1, k2, k3, k6])
    | (with_reducible refine aw_block ?_)
    | (with_reducible refine aw_ret ?_; (try simp only [thenQ, blockQ]); refine aw_ret' ?_; simp only [go_sem, reduceIte, Nat.reduceLT, Nat.reduceEqDiff, Nat.reduceAdd, Nat.reduceMul, Nat.reduceSub, Nat.reduceLeDiff, reduceCtorEq, s1, c1, s2, c2, s3, c3, s4, c4, s5, c5, s6, c6, h4, hr, hix, q1, q2, erD, k1, k2, k3, k6])
    | (with_reducible refine aw_exit ?_; simp only [thenQ, blockQ, reduceIte, Nat.reduceEqDiff])
    | (with_reducible refine aw_skip ?_; simp only [thenQ, blockQ])
    | (with_reducible refine gate_intro (fun h => ?_) (fun h => ?_) <;> simp only [h, go_sem, reduceIte, Nat.reduceLT, Nat.reduceEqDiff, Nat.reduceAdd, Nat.reduceMul, Nat.reduceSub, Nat.reduceLeDiff, reduceCtorEq, s1, c1, s2, c2, s3, c3, s4, c4, s5, c5, s6, c6, h4, hr, hix, q1, q2, erD, k1, k2, k3, k6] <;> (try simp only [decide_eq_true_eq, decide_eq_false_iff_not, Bool.not_true] at h))
    | (with_reducible refine chk_in (by kernel_rfl) ?_)
    | (with_reducible refine And.intro (And.intro (by omega) (by omega)) ?_)
    | (with_reducible refine And.intro (by omega) ?_)
    | (refine vaR_call rfl l hl rfl ?_)
    | (refine dlR_call rfl (d1, d2) rfl ?_)
    | (refine enR_call rfl (ca, ce, pa) rfl ?_)
    | (refine ix_call rfl l ca pa hl rfl ?_)
    | (refine wo_call rfl l p ⟨hl, hlt⟩ (memOf_free rfl) ?_)
    | (refine add_call rfl (outE l p) (modE ((r1, r2, r3), r4) to) rfl rfl hol (memOf_free rfl) ?_)
    | (rw [get_in]; rotate_left; omega; simp only [go_sem, reduceIte, Nat.reduceLT, Nat.reduceEqDiff, Nat.reduceAdd, Nat.reduceMul, Nat.reduceSub, Nat.reduceLeDiff, reduceCtorEq, s1, c1, s2, c2, s3, c3, s4, c4, s5, c5, s6, c6, h4, hr, hix, q1, q2, erD, k1, k2, k3, k6])
    | fail)
              · refine ap_err ?_
                simp at h; rw [hR]; simp [applyB, he, hat, h]
              · simp at h
                refine ap_own (m := l.set p (modE ((r1, r2, r3), r4) to)) ?_ (by rw [hmv])
                rw [hR]; simp [applyB, he, hat, hp, h]
          | none =>
            have hix := ixE_none hA hat
            have q1 : decide ((-1 : Int) ≥ 0) = false := rfl
            have q2 : decide ((-1 : Int) < 0) = true := rfl
            rcases hkd with rfl | rfl | rfl
            · repeat' (first
    | (with_reducible refine aw_seq ?_)
    | (with_reducible refine kont_in ?_; simp only [go_sem, reduceIte, Nat.reduceLT, Nat.reduceEqDiff, Nat.reduceAdd, Nat.reduceMul, Nat.reduceSub, Nat.reduceLeDiff, reduceCtorEq, s1, c1, s2, c2, s3, c3, s4, c4, s5, c5, s6, c6, h4, hix, q1, q2, k1, k2, k3, k6])
    | (with_reducible refine dKont_in ?_; simp only [go_sem, reduceIte, Nat.reduceLT, Nat.reduceEqDiff, Nat.reduceAdd, Nat.reduceMul, Nat.reduceSub, Nat.reduceLeDiff, reduceCtorEq, s1, c1, s2, c2, s3, c3, s4, c4, s5, c5, s6, c6, h4, hix, q1, q2, k1, k2, k3, k6])
    | (with_reducible refine aw_drw (by kernel_rfl) hK hD ?_; simp only [go_sem, reduceIte, Nat.reduceLT, Nat.reduceEqDiff, Nat.reduceAdd, Nat.reduceMul, Nat.reduceSub, Nat.reduceLeDiff, reduceCtorEq, s1, c1, s2, c2, s3, c3, s4, c4, s5, c5, s6, c6, h4, hix, q1, q2, k1, k2, k3, k6])
    | (with_reducible refine aw_reg hK ?_; simp only [go_sem, reduceIte, Nat.reduceLT, Nat.reduceEqDiff, Nat.reduceAdd, Nat.reduceMul, Nat.reduceSub, Nat.reduceLeDiff, reduceCtorEq, s1, c1, s2, c2, s3, c3, s4, c4, s5, c5, s6, c6, h4, hix, q1, q2, k1, k2, k3, k6])
    | (with_reducible refine aw_if ?_; simp only [go_sem, reduceIte, Nat.reduceLT, Nat.reduceEqDiff, Nat.reduceAdd, Nat.reduceMul, Nat.reduceSub, Nat.reduceLeDiff, reduceCtorEq, s1, c1, s2, c2, s3, c3, s4, c4, s5, c5, s6, c6, h4, hix, q1, q2, k1, k2, k3, k6])
    | (with_reducible refine aw_block ?_)
    | (with_reducible refine aw_ret ?_; (try simp only [thenQ, blockQ]); refine aw_ret' ?_; simp only [go_sem, reduceIte, Nat.reduceLT, Nat.reduceEqDiff, Nat.reduceAdd, Nat.reduceMul, Nat.reduceSub, Nat.reduceLeDiff, reduceCtorEq, s1, c1, s2, c2, s3, c3, s4, c4, s5, c5, s6, c6, h4, hix, q1, q2, k1, k2, k3, k6])
    | (with_reducible refine aw_exit ?_; simp only [thenQ, blockQ, reduceIte, Nat.reduceEqDiff])
    | (with_reducible refine aw_skip ?_; simp only [thenQ, blockQ])
    | (with_reducible refine gate_intro (fun h => ?_) (fun h => ?_) <;> simp only [h, go_sem, reduceIte, Nat.reduceLT, Nat.reduceEqDiff, Nat.reduceAdd, Nat.reduceMul, Nat.reduceSub, Nat.reduceLeDiff, reduceCtorEq, s1, c1, s2, c2, s3, c3, s4, c4, s5, c5, s6, c6, h4, hix, q1, q2, k1, k2, k3, k6] <;> (try simp only [decide_eq_true_eq, decide_eq_false_iff_not, Bool.not_true] at h))
    | (with_reducible refine chk_in (by kernel_rfl) ?_)
    | (with_reducible refine And.intro (And.intro (by omega) (by omega)) ?_)
    | (with_reducible refine And.intro (by omega) ?_)
    | (refine vaR_call rfl l hl rfl ?_)
    | (refine dlR_call rfl (d1, d2) rfl ?_)
    | (refine enR_call rfl (ca, ce, pa) rfl ?_)
    | (refine ix_call rfl l ca pa hl rfl ?_)
    | (refine add_call rfl l (apX d e) rfl (by rw [he, hd]; rfl) hl (memOf_free rfl) ?_)
    | (rw [get_in]; rotate_left; omega; simp only [go_sem, reduceIte, Nat.reduceLT, Nat.reduceEqDiff, Nat.reduceAdd, Nat.reduceMul, Nat.reduceSub, Nat.reduceLeDiff, reduceCtorEq, s1, c1, s2, c2, s3, c3, s4, c4, s5, c5, s6, c6, h4, hix, q1, q2, k1, k2, k3, k6])
    | fail)
              · refine ap_err ?_
                have h3 : l.length = 300 := by simp at h; omega
                rw [hR]; simp [applyB, he, hat, h3]
              · have h3 : l.length ≠ 300 := by simp at h; omega
                refine ap_own (m := insE l (apX d e)) ?_ rfl
                rw [hR]; simp [applyB, he, hat, h3]
            · repeat' (first
    | (with_reducible refine aw_seq ?_)
    | (with_reducible refine kont_in ?_; simp only [go_sem, reduceIte, Nat.reduceLT, Nat.reduceEqDiff, Nat.reduceAdd, Nat.reduceMul, Nat.reduceSub, Nat.reduceLeDiff, reduceCtorEq, s1, c1, s2, c2, s3, c3, s4, c4, s5, c5, s6, c6, h4, hix, q1, q2, k1, k2, k3, k6])
    | (with_reducible refine dKont_in ?_; simp only [go_sem, reduceIte, Nat.reduceLT, Nat.reduceEqDiff, Nat.reduceAdd, Nat.reduceMul, Nat.reduceSub, Nat.reduceLeDiff, reduceCtorEq, s1, c1, s2, c2, s3, c3, s4, c4, s5, c5, s6, c6, h4, hix, q1, q2, k1, k2, k3, k6])
    | (with_reducible refine aw_drw (by kernel_rfl) hK hD ?_; simp only [go_sem, reduceIte, Nat.reduceLT, Nat.reduceEqDiff, Nat.reduceAdd, Nat.reduceMul, Nat.reduceSub, Nat.reduceLeDiff, reduceCtorEq, s1, c1, s2, c2, s3, c3, s4, c4, s5, c5, s6, c6, h4, hix, q1, q2, k1, k2, k3, k6])
    | (with_reducible refine aw_reg hK ?_; simp only [go_sem, reduceIte, Nat.reduceLT, Nat.reduceEqDiff, Nat.reduceAdd, Nat.reduceMul, Nat.reduceSub, Nat.reduceLeDiff, reduceCtorEq, s1, c1, s2, c2, s3, c3, s4, c4, s5, c5, s6, c6, h4, hix, q1, q2, k1, k2, k3, k6])
    | (with_reducible refine aw_if ?_; simp only [go_sem, reduceIte, Nat.reduceLT, Nat.reduceEqDiff, Nat.reduceAdd, Nat.reduceMul, Nat.reduceSub, Nat.reduceLeDiff, reduceCtorEq, s1, c1, s2, c2, s3, c3, s4, c4, s5, c5, s6, c6, h4, hix, q1, q2, k1, k2, k3, k6])
    | (with_reducible refine aw_block ?_)
    | (with_reducible refine aw_ret ?_; (try simp only [thenQ, blockQ]); refine aw_ret' ?_; simp only [go_sem, reduceIte, Nat.reduceLT, Nat.reduceEqDiff, Nat.reduceAdd, Nat.reduceMul, Nat.reduceSub, Nat.reduceLeDiff, reduceCtorEq, s1, c1, s2, c2, s3, c3, s4, c4, s5, c5, s6, c6, h4, hix, q1, q2, k1, k2, k3, k6])
    | (with_reducible refine aw_exit ?_; simp only [thenQ, blockQ, reduceIte, Nat.reduceEqDiff])
    | (with_reducible refine aw_skip ?_; simp only [thenQ, blockQ])
    | (with_reducible refine gate_intro (fun h => ?_) (fun h => ?_) <;> simp only [h, go_sem, reduceIte, Nat.reduceLT, Nat.reduceEqDiff, Nat.reduceAdd, Nat.reduceMul, Nat.reduceSub, Nat.reduceLeDiff, reduceCtorEq, s1, c1, s2, c2, s3, c3, s4, c4, s5, c5, s6, c6, h4, hix, q1, q2, k1, k2, k3, k6] <;> (try simp only [decide_eq_true_eq, decide_eq_false_iff_not, Bool.not_true] at h))
    | (with_reducible refine chk_in (by kernel_rfl) ?_)
    | (with_reducible refine And.intro (And.intro (by omega) (by omega)) ?_)
    | (with_reducible refine And.intro (by omega) ?_)
    | (refine vaR_call rfl l hl rfl ?_)
    | (refine dlR_call rfl (d1, d2) rfl ?_)
    | (refine enR_call rfl (ca, ce, pa) rfl ?_)
    | (refine ix_call rfl l ca pa hl rfl ?_)
    | (rw [get_in]; rotate_left; omega; simp only [go_sem, reduceIte, Nat.reduceLT, Nat.reduceEqDiff, Nat.reduceAdd, Nat.reduceMul, Nat.reduceSub, Nat.reduceLeDiff, reduceCtorEq, s1, c1, s2, c2, s3, c3, s4, c4, s5, c5, s6, c6, h4, hix, q1, q2, k1, k2, k3, k6])
    | fail)
              refine ap_err ?_
              rw [hR]; simp [applyB, he, hat]
            · repeat' (first
    | (with_reducible refine aw_seq ?_)
    | (with_reducible refine kont_in ?_; simp only [go_sem, reduceIte, Nat.reduceLT, Nat.reduceEqDiff, Nat.reduceAdd, Nat.reduceMul, Nat.reduceSub, Nat.reduceLeDiff, reduceCtorEq, s1, c1, s2, c2, s3, c3, s4, c4, s5, c5, s6, c6, h4, hix, q1, q2, k1, k2, k3, k6])
    | (with_reducible refine dKont_in ?_; simp only [go_sem, reduceIte, Nat.reduceLT, Nat.reduceEqDiff, Nat.reduceAdd, Nat.reduceMul, Nat.reduceSub, Nat.reduceLeDiff, reduceCtorEq, s1, c1, s2, c2, s3, c3, s4, c4, s5, c5, s6, c6, h4, hix, q1, q2, k1, k2, k3, k6])
    | (with_reducible refine aw_drw (by kernel_rfl) hK hD ?_; simp only [go_sem, reduceIte, Nat.reduceLT, Nat.reduceEqDiff, Nat.reduceAdd, Nat.reduceMul, Nat.reduceSub, Nat.reduceLeDiff, reduceCtorEq, s1, c1, s2, c2, s3, c3, s4, c4, s5, c5, s6, c6, h4, hix, q1, q2, k1, k2, k3, k6])
    | (with_reducible refine aw_reg hK ?_; simp only [go_sem, reduceIte, Nat.reduceLT, Nat.reduceEqDiff, Nat.reduceAdd, Nat.reduceMul, Nat.reduceSub, Nat.reduceLeDiff, reduceCtorEq, s1, c1, s2, c2, s3, c3, s4, c4, s5, c5, s6, c6, h4, hix, q1, q2, k1, k2, k3, k6])
    | (with_reducible refine aw_if ?_; simp only [go_sem, reduceIte, Nat.reduceLT, Nat.reduceEqDiff, Nat.reduceAdd, Nat.reduceMul, Nat.reduceSub, Nat.reduceLeDiff, reduceCtorEq, s1, c1, s2, c2, s3, c3, s4, c4, s5, c5, s6, c6, h4, hix, q1, q2, k1, k2, k3, k6])
    | (with_reducible refine aw_block ?_)
    | (with_reducible refine aw_ret ?_; (try simp only [thenQ, blockQ]); refine aw_ret' ?_; simp only [go_sem, reduceIte, Nat.reduceLT, Nat.reduceEqDiff, Nat.reduceAdd, Nat.reduceMul, Nat.reduceSub, Nat.reduceLeDiff, reduceCtorEq, s1, c1, s2, c2, s3, c3, s4, c4, s5, c5, s6, c6, h4, hix, q1, q2, k1, k2, k3, k6])
    | (with_reducible refine aw_exit ?_; simp only [thenQ, blockQ, reduceIte, Nat.reduceEqDiff])
    | (with_reducible refine aw_skip ?_; simp only [thenQ, blockQ])
    | (with_reducible refine gate_intro (fun h => ?_) (fun h => ?_) <;> simp only [h, go_sem, reduceIte, Nat.reduceLT, Nat.reduceEqDiff, Nat.reduceAdd, Nat.reduceMul, Nat.reduceSub, Nat.reduceLeDiff, reduceCtorEq, s1, c1, s2, c2, s3, c3, s4, c4, s5, c5, s6, c6, h4, hix, q1, q2, k1, k2, k3, k6] <;> (try simp only [decide_eq_true_eq, decide_eq_false_iff_not, Bool.not_true] at h))
    | (with_reducible refine chk_in (by kernel_rfl) ?_)
    | (with_reducible refine And.intro (And.intro (by omega) (by omega)) ?_)
    | (with_reducible refine And.intro (by omega) ?_)
    | (refine vaR_call rfl l hl rfl ?_)
    | (refine dlR_call rfl (d1, d2) rfl ?_)
    | (refine enR_call rfl (ca, ce, pa) rfl ?_)
    | (refine ix_call rfl l ca pa hl rfl ?_)
    | (rw [get_in]; rotate_left; omega; simp only [go_sem, reduceIte, Nat.reduceLT, Nat.reduceEqDiff, Nat.reduceAdd, Nat.reduceMul, Nat.reduceSub, Nat.reduceLeDiff, reduceCtorEq, s1, c1, s2, c2, s3, c3, s4, c4, s5, c5, s6, c6, h4, hix, q1, q2, k1, k2, k3, k6])
    | fail)
              refine ap_err ?_
              rw [hR]; simp [applyB, he, hat]
      · refine kw (c := 28) ?_ (by decide)
        have hg : ¬ (kd < 1 ∨ 3 < kd ∨ enV (ca, ce, pa) = false ∨ kd = 3 ∧ (ceV to = false ∨ to = ce)) := by
          rintro (hh | hh | hh | hh)
          · omega
          · omega
          · rw [hen] at hh; cases hh
          · exact h2 hh
        simp only [Bool.not_eq_eq_eq_not, Bool.not_true, Bool.not_false, decide_eq_true_eq, bne_iff_ne, ne_eq, beq_iff_eq, beq_eq_false_iff_ne, bne_eq_false_iff_eq, gt_iff_lt] at *
        unfold badE
        rw [he, if_neg hg, if_pos (by simp only; omega)]
      · refine ⟨?_, weak_in [(100, _), (101, _)] (by repeat' (first | trivial | constructor | rfl)) (by repeat' (first | trivial | constructor | rfl)) (by rfl) (by rfl) (by rfl)⟩
        simp only [Bool.not_eq_eq_eq_not, Bool.not_true, Bool.not_false, decide_eq_true_eq, bne_iff_ne, ne_eq, beq_iff_eq, beq_eq_false_iff_ne, bne_eq_false_iff_eq, gt_iff_lt] at *; omega
      · refine ⟨?_, weak_in [(100, _), (101, _)] (by repeat' (first | trivial | constructor | rfl)) (by repeat' (first | trivial | constructor | rfl)) (by rfl) (by rfl) (by rfl)⟩
        simp only [Bool.not_eq_eq_eq_not, Bool.not_true, Bool.not_false, decide_eq_true_eq, bne_iff_ne, ne_eq, beq_iff_eq, beq_eq_false_iff_ne, bne_eq_false_iff_eq, gt_iff_lt] at *; omega
    all_goals first
      | (refine ⟨?_, weak_in [(100, 100), (101, _)] (by repeat' (first | trivial | constructor | rfl)) (by repeat' (first | trivial | constructor | rfl)) (by rfl) (by rfl) (by rfl)⟩; rw [ceV_f]; simp only [Bool.not_eq_eq_eq_not, Bool.not_true, Bool.not_false, decide_eq_true_eq, bne_iff_ne, ne_eq, beq_iff_eq, beq_eq_false_iff_ne, bne_eq_false_iff_eq, gt_iff_lt] at *; omega)
      | (refine kw (c := 2) ?_ (by decide); simp only [Bool.not_eq_eq_eq_not, Bool.not_true, Bool.not_false, decide_eq_true_eq, bne_iff_ne, ne_eq, beq_iff_eq, beq_eq_false_iff_ne, bne_eq_false_iff_eq, gt_iff_lt] at *; unfold badE; rw [he, if_pos (.inr (.inr (.inr ⟨by simp only; omega, by simp only [ceV_f]; omega⟩)))])
  all_goals first
    | (refine ⟨⟨?_, by simpa using h⟩, weak_in [(100, _), (101, _)] (by repeat' (first | trivial | constructor | rfl)) (by repeat' (first | trivial | constructor | rfl)) (by rfl) (by rfl) (by rfl)⟩; simp only [Bool.not_eq_eq_eq_not, Bool.not_true, Bool.not_false, decide_eq_true_eq, bne_iff_ne, ne_eq, beq_iff_eq, beq_eq_false_iff_ne, bne_eq_false_iff_eq, gt_iff_lt] at *; omega)
    | (refine kw (c := 2) ?_ (by decide); unfold badE; rw [he, if_pos (by simp at h; exact .inr (.inr (.inl h)))])
    | (refine kw (c := 2) ?_ (by decide); simp only [Bool.not_eq_eq_eq_not, Bool.not_true, Bool.not_false, decide_eq_true_eq, bne_iff_ne, ne_eq, beq_iff_eq, beq_eq_false_iff_ne, bne_eq_false_iff_eq, gt_iff_lt] at *; unfold badE; rw [he, if_pos (by simp only; omega)])
end Go.Proofs.R1

/- The abstract machine: a family of rows; one of them at hand. -/
set_option linter.unusedVariables false
set_option linter.unusedSimpArgs false
namespace Go.Abs
open Go

theorem memOf_none_app {ml R : List (Nat × Ent)} {j np : Nat} (h : memOf ml j = none) (hR : ∀ p, p ∈ R → np ≤ p.1) (hj : j < np) : memOf (ml ++ R) j = none := by
  rw [memOf_app, h]; exact memOf_lo hR hj
theorem famE_ge {κ : Type} {sz : Nat} {c : κ → List (List D)} {n : Nat} {l : List κ} : ∀ p, p ∈ famE sz c n l → n ≤ p.1 := fun p hp => by
  obtain ⟨i, s, h, _⟩ := famE_mem hp; omega
theorem famE_low {κ : Type} {sz : Nat} {c : κ → List (List D)} {n : Nat} {l : List κ} {j : Nat} (h : j < n) : memOf (famE sz c n l) j = none := memOf_lo famE_ge h
theorem famE_rows {κ : Type} {sz : Nat} {c : κ → List (List D)} {n : Nat} {l : List κ} {p : Nat × Ent} (h : p ∈ famE sz c n l) : ∃ es, p.2 = .row sz es true := by
  obtain ⟨i, s, _, _, h⟩ := famE_mem h; exact ⟨_, h⟩

/-- What a map says under other identities. -/
theorem kvE_old {κ : Type} {ke : κ → List D} {old : Nat → Nat} {M : Mem} {Ks : List κ} {N : Nat} (h : ∀ q, q < Ks.length → (M (N + q)).isSome = true) :
    reE old M (.rmap (kvE ke N Ks)) = some (.rmap ((kvE ke N Ks).map fun x => (x.1, old x.2))) := by
  have key : ∀ (Ks : List κ) (N : Nat), (∀ q, q < Ks.length → (M (N + q)).isSome = true) → mapO (fun p : D × Nat => if (M p.2).isSome then some (p.1, old p.2) else none) (kvE ke N Ks) = some ((kvE ke N Ks).map fun x => (x.1, old x.2)) := by
    intro Ks
    induction Ks with
    | nil => intro N _; rfl
    | cons k Ks ih =>
      intro N h
      have h0 := h 0 (by simp)
      have h1 := ih (N + 1) fun q hq => by have := h (q + 1) (by simpa using hq); rwa [show N + 1 + q = N + (q + 1) by omega]
      simp only [Nat.add_zero] at h0
      simp only [kvE, mapO, h0, if_true, h1, List.map_cons]
  simp only [reE, key Ks N h, Option.map_some]
theorem kvE_set {κ : Type} {ke : κ → List D} {Ks : List κ} {N p b : Nat} {s : κ} {old : Nat → Nat} (hs : Ks[p]? = some s) (hp : old (N + p) = b) (ho : ∀ q, q ≠ p → old (N + q) = N + q) :
    (kvE ke N Ks).map (fun x => (x.1, old x.2)) = (kvE ke N Ks).set p (.agg (ke s), b) := by
  apply List.ext_getElem?
  intro i
  rw [List.getElem?_map, List.getElem?_set, kvE_get, kvE_len]
  by_cases hi : p = i
  · subst hi
    have hl : p < Ks.length := by
      rcases Nat.lt_or_ge p Ks.length with h | h
      · exact h
      · rw [List.getElem?_eq_none h] at hs; cases hs
    rw [hs]; simp [hl, hp]
  · rw [if_neg hi]
    cases Ks[i]? with
    | none => rfl
    | some k => simp [ho i (Ne.symm hi)]
theorem kvE_set2 {κ : Type} {ke : κ → List D} {Ks : List κ} {N p b : Nat} {s : κ} {old : Nat → Nat} (hs : Ks[p]? = some s) (hp : old b = N + p) (ho : ∀ q, q ≠ p → old (N + q) = N + q) :
    ((kvE ke N Ks).set p (.agg (ke s), b)).map (fun x => (x.1, old x.2)) = kvE ke N Ks := by
  apply List.ext_getElem?
  intro i
  rw [List.getElem?_map, List.getElem?_set, kvE_get, kvE_len]
  by_cases hi : p = i
  · subst hi
    have hl : p < Ks.length := by
      rcases Nat.lt_or_ge p Ks.length with h | h
      · exact h
      · rw [List.getElem?_eq_none h] at hs; cases hs
    rw [hs]; simp [hl, hp]
  · rw [if_neg hi]
    cases Ks[i]? with
    | none => rfl
    | some k => simp [ho i (Ne.symm hi)]
theorem kvE_app {κ : Type} {ke : κ → List D} {Ks : List κ} {N b : Nat} {s : κ} : (kvE ke N (Ks ++ [s])).set Ks.length (.agg (ke s), b) = kvE ke N Ks ++ [(.agg (ke s), b)] := by
  induction Ks generalizing N with
  | nil => rfl
  | cons k Ks ih => simp only [List.cons_append, kvE, List.length_cons, List.set_cons_succ, ih]
theorem reE_set {κ : Type} {ke : κ → List D} {old : Nat → Nat} {M : Mem} {kvs : List (D × Nat)} (h : ∀ q, q ∈ kvs → (M q.2).isSome = true) : reE old M (.rmap kvs) = some (.rmap (kvs.map fun x => (x.1, old x.2))) := by
  have key : ∀ kvs : List (D × Nat), (∀ q, q ∈ kvs → (M q.2).isSome = true) → mapO (fun p : D × Nat => if (M p.2).isSome then some (p.1, old p.2) else none) kvs = some (kvs.map fun x => (x.1, old x.2)) := by
    intro kvs
    induction kvs with
    | nil => intro _; rfl
    | cons k kvs ih =>
      intro h
      simp only [mapO, h k (by simp), if_true, ih fun q hq => h q (List.mem_cons_of_mem _ hq), List.map_cons]
  simp only [reE, key kvs h, Option.map_some]

/-- The family's identities: the one at hand is b. -/
def oldF (N p b : Nat) (ρ : List (Nat × Nat)) (j : Nat) : Nat := if N ≤ j then (if j = N + p then b else j) else rho ρ j
theorem oldF_at {N p b : Nat} {ρ : List (Nat × Nat)} : oldF N p b ρ (N + p) = b := by simp [oldF]
theorem oldF_ne {N p b q : Nat} {ρ : List (Nat × Nat)} (h : q ≠ p) : oldF N p b ρ (N + q) = N + q := by simp [oldF, h]

/-- The state with the row at hand goes back to its family; or a new row joins it. -/
theorem weak_join {κ : Type} {n np N b p sz : Nat} {c' : κ → List (List D)} {Ks' : List κ} {el el' : List (Nat × D)} {L ml' : List (Nat × Ent)} {x y : Nat} (ρ : List (Nat × Nat))
    (he : heO (oldF N p b ρ) (memOf (ml' ++ famE sz c' N Ks')) el el') (hm : hmO (oldF N p b ρ) (memOf (ml' ++ famE sz c' N Ks')) (memOf L) ml')
    (hR : ∀ q s, Ks'[q]? = some s → memOf L (oldF N p b ρ (N + q)) = some (.row sz (c' s) true)) (hb : b < N) (hnb : np ≤ b) (hN : np ≤ N)
    (hn : ml'.all (fun p => decide (p.1 < N) && decide (rho ρ p.1 < N) && decide (rho ρ p.1 ≠ b) && decide (np ≤ rho ρ p.1)) = true) (hd : ((ml'.map fun p => rho ρ p.1).Nodup : Bool) = true)
    (hp : ∀ j, j < np → memOf L j = none) : Weak n np ⟨envOf el, memOf L, x⟩ ⟨envOf el', memOf (ml' ++ famE sz c' N Ks'), y⟩ := by
  rw [List.all_eq_true] at hn
  have hn' : ∀ q, q ∈ ml' → q.1 < N ∧ rho ρ q.1 < N ∧ rho ρ q.1 ≠ b ∧ np ≤ rho ρ q.1 := fun q hq => by
    have := hn q hq; simp only [Bool.and_eq_true, decide_eq_true_eq] at this; exact ⟨this.1.1.1, this.1.1.2, this.1.2, this.2⟩
  have ho : ∀ q, q ∈ ml' → oldF N p b ρ q.1 = rho ρ q.1 := fun q hq => by simp [oldF, Nat.not_le.2 (hn' q hq).1]
  suffices goal : Weak n np ⟨envOf el, memOf (L ++ []), x⟩ ⟨envOf el', memOf (ml' ++ famE sz c' N Ks'), y⟩ by rwa [List.append_nil] at goal
  refine weak_fam (oldF N p b ρ) he (by rw [List.append_nil]; exact hm) (fun q hq => ?_) ?_ ?_ (fun q r hq hr h => ?_) (fun q r hq hr h => ?_) ?_
  · obtain ⟨i, s, h1, h2, h3⟩ := famE_mem hq
    refine ⟨⟨sz, _, h3⟩, by rw [h1, h3, List.append_nil]; exact hR i s h2, ?_⟩
    rw [h1]
    by_cases hi : i = p
    · rw [hi, oldF_at]; exact hnb
    · rw [oldF_ne hi]; omega
  · rw [List.all_eq_true]
    intro q hq
    rw [decide_eq_true_eq, ho q hq]
    exact fun _ => (hn' q hq).2.2.2
  · have : ml'.map (fun p_1 => oldF N p b ρ p_1.1) = ml'.map fun p => rho ρ p.1 := List.map_congr_left ho
    rw [this]; exact hd
  · obtain ⟨i, s, h1, h2, h3⟩ := famE_mem hq
    obtain ⟨j, t, h4, h5, h6⟩ := famE_mem hr
    rw [h1, h4] at h ⊢
    by_cases hi : i = p <;> by_cases hj : j = p
    · rw [hi, hj]
    · rw [hi, oldF_at, oldF_ne hj] at h; omega
    · rw [hj, oldF_at, oldF_ne hi] at h; omega
    · rw [oldF_ne hi, oldF_ne hj] at h; exact h
  · obtain ⟨j, t, h4, h5, h6⟩ := famE_mem hr
    rw [ho q hq, h4] at h
    have := hn' q hq
    by_cases hj : j = p
    · rw [hj, oldF_at] at h; omega
    · rw [oldF_ne hj] at h; omega
  · rw [List.all_eq_true]
    intro j hj
    rw [List.append_nil, hp j (List.mem_range.1 hj)]
    rfl

/-- One row of the family is at hand. -/
def oldT (N p a : Nat) (j : Nat) : Nat := if j = a then N + p else j
theorem weak_hand {κ : Type} {n np N a p sz m : Nat} {c : κ → List (List D)} {ke : κ → List D} {Ks : List κ} {s : κ} {el : List (Nat × D)} {ml : List (Nat × Ent)} {x y : Nat} (hs : Ks[p]? = some s)
    (he : heO (oldT N p a) (memOf (((a, .row sz (c s) true) :: (m, .rmap ((kvE ke N Ks).set p (.agg (ke s), a))) :: ml) ++ (famE sz c N Ks).filter fun q => q.1 != N + p)) el el)
    (hm : hmO (oldT N p a) (memOf (((a, .row sz (c s) true) :: (m, .rmap ((kvE ke N Ks).set p (.agg (ke s), a))) :: ml) ++ (famE sz c N Ks).filter fun q => q.1 != N + p)) (memOf (((m, .rmap (kvE ke N Ks)) :: ml) ++ famE sz c N Ks)) ml)
    (ha : a < N) (hna : np ≤ a) (hmN : m < N) (hnm : np ≤ m) (hma : m ≠ a) (hN : np ≤ N)
    (hn : ml.all (fun q => decide (q.1 < N) && decide (q.1 ≠ a) && decide (q.1 ≠ m) && decide (np ≤ q.1)) = true) (hd : ((ml.map fun p => p.1).Nodup : Bool) = true)
    : Weak n np ⟨envOf el, memOf (((m, .rmap (kvE ke N Ks)) :: ml) ++ famE sz c N Ks), x⟩ ⟨envOf el, memOf (((a, .row sz (c s) true) :: (m, .rmap ((kvE ke N Ks).set p (.agg (ke s), a))) :: ml) ++ (famE sz c N Ks).filter fun q => q.1 != N + p), y⟩ := by
  have hpl : p < Ks.length := by
    rcases Nat.lt_or_ge p Ks.length with h | h
    · exact h
    · rw [List.getElem?_eq_none h] at hs; cases hs
  rw [List.all_eq_true] at hn
  have hn' : ∀ q, q ∈ ml → q.1 < N ∧ q.1 ≠ a ∧ q.1 ≠ m ∧ np ≤ q.1 := fun q hq => by
    have := hn q hq; simp only [Bool.and_eq_true, decide_eq_true_eq] at this; exact ⟨this.1.1.1, this.1.1.2, this.1.2, this.2⟩
  have hoa : oldT N p a a = N + p := by simp [oldT]
  have hom : oldT N p a m = m := by simp [oldT, hma]
  have ho : ∀ q, q ∈ ml → oldT N p a q.1 = q.1 := fun q hq => by simp [oldT, (hn' q hq).2.1]
  have hof : ∀ i, oldT N p a (N + i) = N + i := fun i => by simp only [oldT]; rw [if_neg (by omega)]
  have hml : ∀ i, memOf ml (N + i) = none := fun i => by
    have : ∀ l : List (Nat × Ent), (∀ q, q ∈ l → q.1 < N) → memOf l (N + i) = none := by
      intro l
      induction l with
      | nil => intro _; rfl
      | cons q l ih =>
        intro h
        obtain ⟨k, e⟩ := q
        have := h _ List.mem_cons_self
        simp only at this
        simp only [memOf]
        rw [if_neg (by omega)]
        exact ih fun q hq => h q (List.mem_cons_of_mem _ hq)
    exact this ml fun q hq => (hn' q hq).1
  have hfam : ∀ i t, Ks[i]? = some t → memOf (((m, .rmap (kvE ke N Ks)) :: ml) ++ famE sz c N Ks) (N + i) = some (.row sz (c t) true) := fun i t ht => by
    rw [List.cons_append]
    simp only [memOf]
    rw [if_neg (by omega), memOf_app, hml i, famE_get, if_pos (by omega), Nat.add_sub_cancel_left, ht]; rfl
  refine weak_fam (oldT N p a) he ⟨⟨?_, ?_⟩, ⟨?_, ?_⟩, hm⟩ (fun q hq => ?_) ?_ ?_ (fun q r hq hr h => ?_) (fun q r hq hr h => ?_) ?_
  · simp only [hoa, hfam p s hs]; rfl
  · simp only [hoa, hfam p s hs]; rfl
  · simp only [hom]
    rw [reE_set (ke := ke)]
    · rw [kvE_set2 hs hoa fun q _ => hof q]
      simp [memOf]
    · intro q hq
      obtain ⟨i, hi, hq'⟩ := List.getElem_of_mem hq
      have h1 := List.getElem?_eq_getElem hi
      rw [hq', List.getElem?_set, kvE_len, kvE_get] at h1
      by_cases hip : p = i
      · subst hip
        simp only [if_true, hpl] at h1
        cases h1
        simp [memOf]
      · rw [if_neg hip] at h1
        obtain ⟨t, ht, hqe⟩ := Option.map_eq_some_iff.1 h1
        subst hqe
        simp only
        rw [List.cons_append, List.cons_append]
        simp only [memOf]
        rw [if_neg (by omega), if_neg (by omega), memOf_app, hml i]
        simp only
        rw [memOf_no, if_neg (by omega), famE_get, if_pos (by omega), Nat.add_sub_cancel_left, ht]; rfl
  · simp only [hom]; simp [memOf]
  · rw [List.mem_filter] at hq
    obtain ⟨i, t, h1, h2, h3⟩ := famE_mem hq.1
    refine ⟨⟨sz, _, h3⟩, by rw [h1, h3, hof]; exact hfam i t h2, ?_⟩
    rw [h1, hof]; omega
  · simp only [List.all_cons, Bool.and_eq_true, decide_eq_true_eq, List.all_eq_true, hoa, hom]
    refine ⟨fun _ => by omega, fun _ => by omega, fun q hq => ?_⟩
    rw [ho q hq]; exact fun h => h
  · simp only [List.map_cons, hoa, hom]
    have : ml.map (fun q => oldT N p a q.1) = ml.map fun q => q.1 := List.map_congr_left ho
    rw [this]
    have hd' : (ml.map fun p => p.1).Nodup := by simpa using hd
    have : ((N + p) :: m :: (ml.map fun q : Nat × Ent => q.1)).Nodup := by
      refine List.nodup_cons.2 ⟨?_, List.nodup_cons.2 ⟨?_, hd'⟩⟩
      · simp only [List.mem_cons, List.mem_map, not_or, not_exists, not_and]
        exact ⟨by omega, fun q hq he => by have := (hn' q hq).1; omega⟩
      · simp only [List.mem_map, not_exists, not_and]
        exact fun q hq he => (hn' q hq).2.2.1 he
    simpa using this
  · rw [List.mem_filter] at hq hr
    obtain ⟨i, t, h1, -⟩ := famE_mem hq.1
    obtain ⟨j, u, h2, -⟩ := famE_mem hr.1
    rw [h1, h2, hof, hof] at h
    rw [h1, h2]; exact h
  · rw [List.mem_filter] at hr
    obtain ⟨j, u, h2, -⟩ := famE_mem hr.1
    have hjp : j ≠ p := by
      rintro rfl
      have := hr.2; rw [h2] at this; simp at this
    rw [h2, hof] at h
    rcases List.mem_cons.1 hq with rfl | hq
    · rw [hoa] at h; omega
    rcases List.mem_cons.1 hq with rfl | hq
    · rw [hom] at h; omega
    · rw [ho q hq] at h; have := (hn' q hq).1; omega
  · rw [List.all_eq_true]
    intro j hj
    have hj := List.mem_range.1 hj
    have : memOf (((m, .rmap (kvE ke N Ks)) :: ml) ++ famE sz c N Ks) j = none := by
      refine memOf_none_app (np := N) ?_ famE_ge (by omega)
      simp only [memOf]
      rw [if_neg (by omega)]
      exact memOf_lo (n := np) (fun q hq => (hn' q hq).2.2.2) hj
    rw [this]; rfl
theorem fam_some {κ : Type} {sz N q : Nat} {c : κ → List (List D)} {Ks : List κ} {ml' : List (Nat × Ent)} (h : (ml'.all fun p => decide (p.1 < N)) = true) (hq : q < Ks.length) : (memOf (ml' ++ famE sz c N Ks) (N + q)).isSome = true := by
  rw [memOf_hi h (by omega), famE_get, if_pos (by omega), Nat.add_sub_cancel_left, List.getElem?_eq_getElem hq]; rfl
theorem kv_new {κ : Type} {ke : κ → List D} {sz N b : Nat} {c : κ → List (List D)} {Ks : List κ} {s : κ} {ml' : List (Nat × Ent)} {ρ : List (Nat × Nat)} (h : (ml'.all fun p => decide (p.1 < N)) = true) :
    reE (oldF N Ks.length b ρ) (memOf (ml' ++ famE sz c N (Ks ++ [s]))) (.rmap (kvE ke N (Ks ++ [s]))) = some (.rmap (kvE ke N Ks ++ [(.agg (ke s), b)])) := by
  rw [kvE_old fun q hq => fam_some h hq, kvE_set (s := s) (p := Ks.length) (b := b) (by simp) oldF_at (fun q hq => oldF_ne hq), kvE_app]
theorem kv_old {κ : Type} {ke : κ → List D} {sz N b p : Nat} {c : κ → List (List D)} {Ks : List κ} {s : κ} {ml' : List (Nat × Ent)} {ρ : List (Nat × Nat)} (h : (ml'.all fun p => decide (p.1 < N)) = true) (hs : Ks[p]? = some s) :
    reE (oldF N p b ρ) (memOf (ml' ++ famE sz c N Ks)) (.rmap (kvE ke N Ks)) = some (.rmap ((kvE ke N Ks).set p (.agg (ke s), b))) := by
  rw [kvE_old fun q hq => fam_some h hq, kvE_set (s := s) (p := p) (b := b) hs oldF_at (fun q hq => oldF_ne hq)]
end Go.Abs

/- Classes of events, in plain words. -/
set_option linter.unusedVariables false
set_option linter.unusedSimpArgs false
set_option linter.unusedSectionVars false
namespace Go.Proofs.R1
open Go Go.Abs
variable {α : Type} [DecidableEq α]

/-- The first event that equals the one at i. -/
def clsN (l : List α) (i : Nat) : Nat := l.findIdx fun e => decide (some e = l[i]?)
theorem clsN_lt {l : List α} {i : Nat} (hi : i < l.length) : clsN l i < l.length :=
  List.findIdx_lt_length_of_exists ⟨l[i], List.getElem_mem hi, by simp [hi]⟩
theorem clsN_eq {l : List α} {i : Nat} (hi : i < l.length) : l[clsN l i]? = l[i]? := by
  have h := clsN_lt hi
  have := List.findIdx_getElem (xs := l) (p := fun e => decide (some e = l[i]?)) (w := h)
  simp only [decide_eq_true_eq] at this
  rw [← this, List.getElem?_eq_getElem h]; rfl
theorem clsN_min {l : List α} {i j : Nat} (hj : j < clsN l i) : l[j]? ≠ l[i]? := by
  have h := List.not_of_lt_findIdx hj
  simp only [decide_eq_false_iff_not] at h
  rcases Nat.lt_or_ge j l.length with hl | hl
  · rw [List.getElem?_eq_getElem hl]; simpa using h
  · have := List.findIdx_le_length (xs := l) (p := fun e => decide (some e = l[i]?))
    unfold clsN at hj; omega
theorem clsN_le {l : List α} {i : Nat} (hi : i < l.length) : clsN l i ≤ i := by
  rcases Nat.lt_or_ge i (clsN l i) with h | h
  · exact absurd rfl (clsN_min h)
  · exact h
theorem clsN_congr {l : List α} {i j : Nat} (h : l[i]? = l[j]?) : clsN l i = clsN l j := by unfold clsN; rw [h]
theorem clsN_idem {l : List α} {i : Nat} (hi : i < l.length) : clsN l (clsN l i) = clsN l i := clsN_congr (clsN_eq hi)
theorem clsN_iff {l : List α} {i j : Nat} (hi : i < l.length) (hj : j < l.length) : clsN l i = clsN l j ↔ l[i]? = l[j]? :=
  ⟨fun h => by rw [← clsN_eq hi, h, clsN_eq hj], clsN_congr⟩
theorem clsN_is {l : List α} {i k : Nat} (hi : i < l.length) (hk : l[k]? = l[i]?) (hm : ∀ j, j < k → l[j]? ≠ l[i]?) : clsN l i = k := by
  rcases Nat.lt_trichotomy (clsN l i) k with h | h | h
  · exact absurd (clsN_eq hi) (hm _ h)
  · exact h
  · exact absurd hk (clsN_min h)

/-- The first events of a stamp. -/
def grp (st : α → St) (l : List α) (i : Nat) (s : St) : List Nat := (List.range i).filter fun j => decide (clsN l j = j ∧ (l[j]?).map st = some s)
theorem grp_mem {st : α → St} {l : List α} {i : Nat} {s : St} {j : Nat} : j ∈ grp st l i s ↔ j < i ∧ clsN l j = j ∧ (l[j]?).map st = some s := by simp [grp]
theorem grp_succ {st : α → St} {l : List α} {i : Nat} {s : St} : grp st l (i + 1) s = grp st l i s ++ (if clsN l i = i ∧ (l[i]?).map st = some s then [i] else []) := by
  unfold grp
  rw [List.range_succ, List.filter_append]
  congr 1
  by_cases h : clsN l i = i ∧ (l[i]?).map st = some s
  · rw [if_pos h]; simp only [List.filter_cons, List.filter_nil, decide_eq_true h, if_true]
  · rw [if_neg h]; simp only [List.filter_cons, List.filter_nil, decide_eq_false h, Bool.false_eq_true, if_false]
theorem grp_other {st : α → St} {l : List α} {i : Nat} {s : St} (h : (l[i]?).map st ≠ some s) : grp st l (i + 1) s = grp st l i s := by
  rw [grp_succ, if_neg (fun k => h k.2), List.append_nil]

/-- Where an event stands in a group. -/
def ixN (l : List α) (g : List Nat) (e : α) : Nat := g.findIdx fun j => decide (l[j]? = some e)
def ixI (l : List α) (g : List Nat) (e : α) : Int := if ixN l g e < g.length then (ixN l g e : Int) else -1
theorem ixI_at {l : List α} {g : List Nat} {e : α} {k : Nat} (hk : k < g.length) (h : ∀ j, g[k]? = some j → l[j]? = some e) (hm : ∀ q j, q < k → g[q]? = some j → l[j]? ≠ some e) : ixI l g e = k := by
  have e1 : ixN l g e = k := by
    unfold ixN
    rw [List.findIdx_eq hk]
    refine ⟨by simpa using h _ (List.getElem?_eq_getElem hk), fun q hq => ?_⟩
    simpa using hm q _ hq (List.getElem?_eq_getElem (by omega))
  unfold ixI; rw [e1, if_pos hk]
theorem ixI_none {l : List α} {g : List Nat} {e : α} (h : ∀ j, j ∈ g → l[j]? ≠ some e) : ixI l g e = -1 := by
  have : ixN l g e = g.length := by
    unfold ixN
    rw [List.findIdx_eq_length]
    intro x hx; simpa using h x hx
  unfold ixI; rw [this, if_neg (by omega)]
/-- The first event of its kind is not yet in its group; any other is. -/
theorem ix_new {st : α → St} {l : List α} {i : Nat} {e : α} (hx : l[i]? = some e) (h : clsN l i = i) : ixI l (grp st l i (st e)) e = -1 := by
  refine ixI_none fun j hj he => ?_
  obtain ⟨h1, -, -⟩ := grp_mem.1 hj
  exact clsN_min (l := l) (i := i) (j := j) (by omega) (by rw [he, hx])
theorem ix_old {st : α → St} {l : List α} {i : Nat} {e : α} (hx : l[i]? = some e) (h : clsN l i ≠ i) : ∃ k : Nat, ixI l (grp st l i (st e)) e = k ∧ (grp st l i (st e))[k]? = some (clsN l i) := by
  have hi : i < l.length := by
    rcases Nat.lt_or_ge i l.length with h | h
    · exact h
    · rw [List.getElem?_eq_none h] at hx; cases hx
  have hle := clsN_le hi
  have hm : clsN l i ∈ grp st l i (st e) := grp_mem.2 ⟨by omega, clsN_idem hi, by rw [clsN_eq hi, hx]; rfl⟩
  obtain ⟨k, hk, hk'⟩ := List.getElem_of_mem hm
  refine ⟨k, ?_, by rw [List.getElem?_eq_getElem hk, hk']⟩
  refine ixI_at hk (fun j hj => ?_) (fun q j hq hj he => ?_)
  · rw [List.getElem?_eq_getElem hk, hk'] at hj; cases hj; rw [clsN_eq hi, hx]
  · have hj' : j ∈ grp st l i (st e) := List.mem_of_getElem? hj
    obtain ⟨h1, h2, -⟩ := grp_mem.1 hj'
    have e1 : clsN l j = clsN l i := clsN_congr (by rw [he, hx])
    have e2 : j = clsN l i := by omega
    subst e2
    have hnd : (grp st l i (st e)).Nodup := List.nodup_range.filter _
    have hql : q < (grp st l i (st e)).length := by omega
    rw [List.getElem?_eq_getElem hql] at hj
    have := (List.getElem_inj hnd).1 ((Option.some.inj hj).trans hk'.symm)
    omega

/-- The classes of a list. -/
def clsI (l : List α) : List Int := (List.range l.length).map fun i => ((clsN l i : Nat) : Int)
theorem clsI_len (l : List α) : (clsI l).length = l.length := by simp [clsI]
theorem clsI_at {l : List α} {i : Nat} (hi : i < l.length) : inAt (clsI l) i = (clsN l i : Nat) := by simp [inAt, clsI, hi]

/-- Keys as they come. -/
structure KeysOk (st : α → St) (l : List α) (i : Nat) (Ks : List St) : Prop where
  nd : Ks.Nodup
  mem : ∀ s, s ∈ Ks ↔ ∃ j, j < i ∧ (l[j]?).map st = some s
  len : Ks.length ≤ i
theorem KeysOk.nil {st : α → St} {l : List α} : KeysOk st l 0 [] := ⟨.nil, by simp, Nat.le_refl _⟩
theorem KeysOk.old {st : α → St} {l : List α} {i : Nat} {Ks : List St} (h : KeysOk st l i Ks) {e : α} (hx : l[i]? = some e) (hm : st e ∈ Ks) : KeysOk st l (i + 1) Ks := by
  refine ⟨h.nd, fun s => ⟨fun hs => ?_, fun ⟨j, hj, hs⟩ => ?_⟩, Nat.le_succ_of_le h.len⟩
  · obtain ⟨j, a, b⟩ := (h.mem s).1 hs
    exact ⟨j, by omega, b⟩
  · rcases Nat.lt_or_ge j i with h' | h'
    · exact (h.mem s).2 ⟨j, h', hs⟩
    · have : j = i := by omega
      subst this; rw [hx] at hs; cases hs; exact hm
theorem KeysOk.new {st : α → St} {l : List α} {i : Nat} {Ks : List St} (h : KeysOk st l i Ks) {e : α} (hx : l[i]? = some e) (hm : st e ∉ Ks) : KeysOk st l (i + 1) (Ks ++ [st e]) := by
  refine ⟨List.nodup_append.2 ⟨h.nd, by simp, ?_⟩, fun s => ⟨fun hs => ?_, fun ⟨j, hj, hs⟩ => ?_⟩, by have := h.len; simp; omega⟩
  · intro a ha b hb he
    simp at hb; subst hb; subst he; exact hm ha
  · rcases List.mem_append.1 hs with hs | hs
    · obtain ⟨j, a, b⟩ := (h.mem s).1 hs
      exact ⟨j, by omega, b⟩
    · simp at hs; subst hs; exact ⟨i, by omega, by rw [hx]; rfl⟩
  · rcases Nat.lt_or_ge j i with h' | h'
    · exact List.mem_append.2 (.inl ((h.mem s).2 ⟨j, h', hs⟩))
    · have : j = i := by omega
      subst this; rw [hx] at hs; cases hs; simp
theorem KeysOk.fresh {st : α → St} {l : List α} {i : Nat} {Ks : List St} (h : KeysOk st l i Ks) {e : α} (hx : l[i]? = some e) (hm : st e ∉ Ks) : grp st l i (st e) = [] ∧ clsN l i = i := by
  have hno : ∀ j, j < i → (l[j]?).map st ≠ some (st e) := fun j hj he => hm ((h.mem _).2 ⟨j, hj, he⟩)
  have hi : i < l.length := by
    rcases Nat.lt_or_ge i l.length with h | h
    · exact h
    · rw [List.getElem?_eq_none h] at hx; cases hx
  constructor
  · rw [List.eq_nil_iff_forall_not_mem]
    intro j hj
    obtain ⟨a, -, b⟩ := grp_mem.1 hj
    exact hno j a b
  · have hle := clsN_le hi
    rcases Nat.lt_or_ge (clsN l i) i with h' | h'
    · exact absurd (by rw [clsN_eq hi, hx]; rfl) (hno _ h')
    · omega

/-- The map of the groups. -/
theorem stD_eqc (a b : St) : eqCells (stD a) (stD b) = some (decide (a = b)) := by
  obtain ⟨x, y, z⟩ := a; obtain ⟨u, v, w⟩ := b
  simp only [stD, eqCells, if_true, Option.map_some, Prod.mk.injEq, Option.some.injEq, Bool.and_true]
  rw [Bool.eq_iff_iff]; simp
theorem find_kv (Ks : List St) (n : Nat) (i : Nat) (s : St) : findK (rows (kvE stD n Ks)) (.agg (stD s)) i = some (if Ks.idxOf s < Ks.length then some (i + Ks.idxOf s, .row (n + Ks.idxOf s)) else none) := by
  induction Ks generalizing n i with
  | nil => simp [kvE, rows, findK]
  | cons k Ks ih =>
    have e : rows (kvE stD n (k :: Ks)) = (.agg (stD k), .row n) :: rows (kvE stD (n + 1) Ks) := rfl
    rw [e]
    simp only [findK, stD_eqc]
    by_cases h : k = s
    · subst h; simp
    · have h' : (k == s) = false := by simpa using h
      simp only [Ne.symm h, decide_false, ih (n + 1) (i + 1), List.idxOf_cons, h', cond_false, List.length_cons]
      by_cases h2 : Ks.idxOf s < Ks.length
      · rw [if_pos h2, if_pos (by omega)]
        have e1 : i + 1 + Ks.idxOf s = i + (Ks.idxOf s + 1) := by omega
        have e2 : n + 1 + Ks.idxOf s = n + (Ks.idxOf s + 1) := by omega
        rw [e1, e2]
      · rw [if_neg h2, if_neg (by omega)]
@[go_sem] theorem stD_kd (s : St) : (stD s).map kdD = [0, 0, 0] := rfl
theorem find_set {Ks : List St} (hn : Ks.Nodup) {s : St} {p b : Nat} (hs : Ks[p]? = some s) (n i : Nat) : findK (rows ((kvE stD n Ks).set p (.agg (stD s), b))) (.agg (stD s)) i = some (some (i + p, .row b)) := by
  induction Ks generalizing n i p with
  | nil => simp at hs
  | cons k Ks ih =>
    cases p with
    | zero =>
      simp at hs; subst hs
      simp [kvE, rows, findK, stD_eqc]
    | succ p =>
      simp only [List.getElem?_cons_succ] at hs
      have hk : s ≠ k := fun h => (List.nodup_cons.1 hn).1 (h ▸ List.mem_of_getElem? hs)
      have e : rows ((kvE stD n (k :: Ks)).set (p + 1) (.agg (stD s), b)) = (.agg (stD k), .row n) :: rows ((kvE stD (n + 1) Ks).set p (.agg (stD s), b)) := rfl
      rw [e]
      simp only [findK, stD_eqc, hk, decide_false, ih (List.nodup_cons.1 hn).2 hs (n + 1) (i + 1)]
      have : i + 1 + p = i + (p + 1) := by omega
      rw [this]
theorem find_no {Ks : List St} {s : St} (h : s ∉ Ks) (n i : Nat) : findK (rows (kvE stD n Ks)) (.agg (stD s)) i = some none := by
  rw [find_kv, if_neg]
  have := List.idxOf_lt_length_iff (l := Ks) (a := s)
  rw [this]; exact h
theorem idx_get {Ks : List St} {s : St} (h : s ∈ Ks) : Ks[Ks.idxOf s]? = some s := by
  have h' := List.idxOf_lt_length_iff.2 h
  rw [List.getElem?_eq_getElem h', List.getElem_idxOf]

/-- A group's row. -/
def evG (st : α → St) (l : List α) (i : Nat) (s : St) : List (List D) := intL (natI (grp st l i s))
@[go_sem] theorem evG_len (st : α → St) (l : List α) (i : Nat) (s : St) : (evG st l i s).length = (grp st l i s).length := by simp [evG, intL, natI]
theorem evG_get {st : α → St} {l : List α} {i : Nat} {s : St} {k c : Nat} (h : (grp st l i s)[k]? = some c) : (evG st l i s)[k]? = some [i64 c] := by simp [evG, intL, natI, h]
theorem evG_add {st : α → St} {l : List α} {i : Nat} {e : α} (hx : l[i]? = some e) (h : clsN l i = i) : evG st l (i + 1) (st e) = evG st l i (st e) ++ [[i64 i]] := by
  simp only [evG, grp_succ, hx, Option.map_some, h, and_self, if_true, natI, intL, List.map_append, List.map_cons, List.map_nil]
theorem evG_same {st : α → St} {l : List α} {i : Nat} {s : St} (h : ¬ (clsN l i = i ∧ (l[i]?).map st = some s)) : evG st l (i + 1) s = evG st l i s := by
  simp only [evG, grp_succ, if_neg h, List.append_nil]
@[go_sem] theorem stR_set (S : List St) (i : Nat) (s : St) : (stR S).set i (stD s) = stR (S.set i s) := by simp [stR, List.map_set]
@[go_sem] theorem intL_set (S : List Int) (i : Nat) (s : Int) : (intL S).set i [i64 s] = intL (S.set i s) := by simp [intL, List.map_set]

/-- A round's state. -/
structure EvInv (st : α → St) (l : List α) (i : Nat) (S : List St) (C : List Int) (Ks : List St) : Prop where
  le : i ≤ l.length
  sl : S.length = l.length
  cl : C.length = l.length
  s : ∀ j e, j < i → l[j]? = some e → S[j]? = some (st e)
  c : ∀ j, j < i → C[j]? = some (clsN l j : Int)
  k : KeysOk st l i Ks
theorem EvInv.next {st : α → St} {l : List α} {i : Nat} {S : List St} {C : List Int} {Ks Ks' : List St} {e : α} {c : Int} (h : EvInv st l i S C Ks) (hx : l[i]? = some e) (hc : c = clsN l i) (hk : KeysOk st l (i + 1) Ks') :
    EvInv st l (i + 1) (S.set i (st e)) (C.set i c) Ks' := by
  have hi : i < l.length := by
    rcases Nat.lt_or_ge i l.length with h | h
    · exact h
    · rw [List.getElem?_eq_none h] at hx; cases hx
  refine ⟨hi, by simp [h.sl], by simp [h.cl], fun j e' hj he => ?_, fun j hj => ?_, hk⟩
  · rw [List.getElem?_set]
    by_cases hij : i = j
    · subst hij; rw [hx] at he; cases he; simp [h.sl, hi]
    · rw [if_neg hij]; exact h.s j e' (by omega) he
  · rw [List.getElem?_set]
    by_cases hij : i = j
    · subst hij; simp [h.cl, hi, hc]
    · rw [if_neg hij]; exact h.c j (by omega)
theorem EvInv.done {st : α → St} {l : List α} {i : Nat} {S : List St} {C : List Int} {Ks : List St} (h : EvInv st l i S C Ks) (hi : l.length ≤ i) : S = l.map st ∧ C = clsI l := by
  constructor
  · apply List.ext_getElem?
    intro j
    rcases Nat.lt_or_ge j l.length with hj | hj
    · rw [h.s j _ (by omega) (List.getElem?_eq_getElem hj)]; simp [hj]
    · rw [List.getElem?_eq_none (by rw [h.sl]; exact hj), List.getElem?_eq_none (by simpa using hj)]
  · apply List.ext_getElem?
    intro j
    rcases Nat.lt_or_ge j l.length with hj | hj
    · rw [h.c j (by omega)]; simp [clsI, hj]
    · rw [List.getElem?_eq_none (by rw [h.cl]; exact hj), List.getElem?_eq_none (by simpa [clsI] using hj)]
theorem join_new {st : α → St} {l : List α} {i b : Nat} {Ks : List St} {e : α} {L : List (Nat × Ent)} (hx : l[i]? = some e) (hm : st e ∉ Ks) (hk : KeysOk st l i Ks)
    (hL : ∀ q s, Ks[q]? = some s → memOf L (1000 + q) = some (.row 1 (evG st l i s) true)) (hb : memOf L b = some (.row 1 [[i64 i]] true)) :
    ∀ q s, (Ks ++ [st e])[q]? = some s → memOf L (oldF 1000 Ks.length b [] (1000 + q)) = some (.row 1 (evG st l (i + 1) s) true) := by
  intro q s hq
  obtain ⟨hg, hcn⟩ := hk.fresh hx hm
  rcases Nat.lt_trichotomy q Ks.length with h | h | h
  · rw [List.getElem?_append_left h] at hq
    rw [oldF_ne (by omega), hL q s hq, evG_same]
    rintro ⟨-, h2⟩
    rw [hx] at h2
    cases h2
    exact hm (List.mem_of_getElem? hq)
  · subst h
    simp at hq; subst hq
    rw [oldF_at, hb, evG_add hx hcn]
    simp [evG, hg, natI, intL]
  · rw [List.getElem?_eq_none (by simp; omega)] at hq; cases hq
theorem join_old {st : α → St} {l : List α} {i b p : Nat} {Ks : List St} {e : α} {L : List (Nat × Ent)} (hx : l[i]? = some e) (hs : Ks[p]? = some (st e)) (hk : KeysOk st l i Ks)
    (hL : ∀ q s, q ≠ p → Ks[q]? = some s → memOf L (1000 + q) = some (.row 1 (evG st l i s) true)) (hb : memOf L b = some (.row 1 (evG st l (i + 1) (st e)) true)) :
    ∀ q s, Ks[q]? = some s → memOf L (oldF 1000 p b [] (1000 + q)) = some (.row 1 (evG st l (i + 1) s) true) := by
  intro q s hq
  by_cases h : q = p
  · subst h; rw [hs] at hq; cases hq
    rw [oldF_at, hb]
  · rw [oldF_ne h, hL q s h hq, evG_same]
    rintro ⟨-, h2⟩
    rw [hx] at h2
    cases h2
    have hl1 : q < Ks.length := by
      rcases Nat.lt_or_ge q Ks.length with h | h
      · exact h
      · rw [List.getElem?_eq_none h] at hq; cases hq
    have hl2 : p < Ks.length := by
      rcases Nat.lt_or_ge p Ks.length with h | h
      · exact h
      · rw [List.getElem?_eq_none h] at hs; cases hs
    rw [List.getElem?_eq_getElem hl1] at hq
    rw [List.getElem?_eq_getElem hl2] at hs
    exact h ((List.getElem_inj hk.nd).1 ((Option.some.inj hq).trans (Option.some.inj hs).symm))
theorem grp_bd {st : α → St} {l : List α} {i : Nat} {s : St} (hi : i ≤ l.length) (hl : l.length ≤ 1000000) : (∀ j, j ∈ grp st l i s → j < l.length) ∧ (grp st l i s).length ≤ 1000000 := by
  refine ⟨fun j hj => by have := (grp_mem.1 hj).1; omega, ?_⟩
  have := List.length_filter_le (fun j => decide (clsN l j = j ∧ (l[j]?).map st = some s)) (List.range i)
  simp only [List.length_range] at this
  unfold grp; omega
end Go.Proofs.R1

/- Events of entries: equality, keys, the closure, IndexFunc. -/
set_option linter.unusedVariables false
set_option linter.unusedSimpArgs false
set_option maxRecDepth 8000
set_option maxHeartbeats 8000000
namespace Go.Proofs.R1
open Go Go.Abs

theorem eeD_eqc (a b : EE) : eqCells (eeD a) (eeD b) = some (decide (a = b)) := by
  obtain ⟨⟨x1, x2, x3⟩, x4, ⟨x5, x6, x7⟩, x8⟩ := a; obtain ⟨⟨y1, y2, y3⟩, y4, ⟨y5, y6, y7⟩, y8⟩ := b
  simp only [eeD, eqCells, if_true, Option.map_some, Prod.mk.injEq, Option.some.injEq, Bool.and_true]
  rw [Bool.eq_iff_iff]; simp [and_assoc]
@[go_sem] theorem eeD_kd (a : EE) : (eeD a).map kdD = [0, 0, 0, 0, 0, 0, 0, 0] := rfl
abbrev eeSameC : Con where
  α := EE × EE
  kinds := [false, false]
  args := fun a => [.d (.agg (eeD a.1)), .d (.agg (eeD a.2))]
  pre := fun _ => True
  post := fun a r => r = ⟨[.d (bl (decide (a.1 = a.2)))], []⟩
  clean := true
theorem eeSame_ok : CallOk Try.prog 17 eeSameC := by
  refine ok_of_body' 8 2 Try.func17 rfl (by decide) Try.ntmps17 (by intro a h; exact ⟨rfl, rfl⟩) (by decide) (by rintro _ a r _ rfl; rfl) ?_
  rintro ⟨a, b⟩ -
  simp only [eeSameC]
  simp only [initE, initMm, List.length_cons, List.length_nil, Nat.reduceAdd]
  repeat' (first
    | (with_reducible refine aw_seq ?_)
    | (with_reducible refine kont_in ?_; simp only [go_sem, reduceIte, Nat.reduceLT, Nat.reduceEqDiff, Nat.reduceAdd, Nat.reduceMul, Nat.reduceSub, Nat.reduceLeDiff, reduceCtorEq, eeD_eqc, eq_self])
    | (with_reducible refine dKont_in ?_; simp only [go_sem, reduceIte, Nat.reduceLT, Nat.reduceEqDiff, Nat.reduceAdd, Nat.reduceMul, Nat.reduceSub, Nat.reduceLeDiff, reduceCtorEq, eeD_eqc, eq_self])
    | (with_reducible refine aw_drw (by kernel_rfl) kOk_nil kDet_nil ?_; simp only [go_sem, reduceIte, Nat.reduceLT, Nat.reduceEqDiff, Nat.reduceAdd, Nat.reduceMul, Nat.reduceSub, Nat.reduceLeDiff, reduceCtorEq, eeD_eqc, eq_self])
    | (with_reducible refine aw_reg kOk_nil ?_; simp only [go_sem, reduceIte, Nat.reduceLT, Nat.reduceEqDiff, Nat.reduceAdd, Nat.reduceMul, Nat.reduceSub, Nat.reduceLeDiff, reduceCtorEq, eeD_eqc, eq_self])
    | (with_reducible refine aw_if ?_; simp only [go_sem, reduceIte, Nat.reduceLT, Nat.reduceEqDiff, Nat.reduceAdd, Nat.reduceMul, Nat.reduceSub, Nat.reduceLeDiff, reduceCtorEq, eeD_eqc, eq_self])
    | (with_reducible refine aw_block ?_)
    | (with_reducible refine aw_ret ?_; (try simp only [thenQ, blockQ]); refine aw_ret' ?_; simp only [go_sem, reduceIte, Nat.reduceLT, Nat.reduceEqDiff, Nat.reduceAdd, Nat.reduceMul, Nat.reduceSub, Nat.reduceLeDiff, reduceCtorEq, eeD_eqc, eq_self])
    | (with_reducible refine aw_exit ?_; simp only [thenQ, blockQ, reduceIte, Nat.reduceEqDiff])
    | (with_reducible refine aw_skip ?_; simp only [thenQ, blockQ])
    | (with_reducible refine gate_intro (fun h => ?_) (fun h => ?_) <;> simp only [h, go_sem, reduceIte, Nat.reduceLT, Nat.reduceEqDiff, Nat.reduceAdd, Nat.reduceMul, Nat.reduceSub, Nat.reduceLeDiff, reduceCtorEq, eeD_eqc, eq_self] <;> (try simp only [decide_eq_true_eq, decide_eq_false_iff_not, Bool.not_true] at h))
    | (with_reducible refine chk_in (by kernel_rfl) ?_)
    | (with_reducible refine And.intro (And.intro (by omega) (by omega)) ?_)
    | (with_reducible refine And.intro (by omega) ?_)
    | (rw [get_in]; rotate_left; omega; simp only [go_sem, reduceIte, Nat.reduceLT, Nat.reduceEqDiff, Nat.reduceAdd, Nat.reduceMul, Nat.reduceSub, Nat.reduceLeDiff, reduceCtorEq, eeD_eqc, eq_self])
    | fail)
abbrev eeKeyC : Con where
  α := EE
  kinds := [false]
  args := fun a => [.d (.agg (eeD a))]
  pre := fun _ => True
  post := fun a r => r = ⟨[.d (.agg (stD a.1))], []⟩
  clean := true
theorem eeKey_ok : CallOk Try.prog 39 eeKeyC := by
  refine ok_of_body' 5 1 Try.func39 rfl (by decide) Try.ntmps39 (by intro a h; exact ⟨rfl, rfl⟩) (by decide) (by rintro _ a r _ rfl; rfl) ?_
  rintro ⟨⟨a1, a2, a3⟩, k, ⟨b1, b2, b3⟩, to⟩ -
  simp only [eeKeyC, eeD]
  simp only [initE, initMm, List.length_cons, List.length_nil, Nat.reduceAdd]
  repeat' (first
    | (with_reducible refine aw_seq ?_)
    | (with_reducible refine kont_in ?_; simp only [go_sem, reduceIte, Nat.reduceLT, Nat.reduceEqDiff, Nat.reduceAdd, Nat.reduceMul, Nat.reduceSub, Nat.reduceLeDiff, reduceCtorEq])
    | (with_reducible refine dKont_in ?_; simp only [go_sem, reduceIte, Nat.reduceLT, Nat.reduceEqDiff, Nat.reduceAdd, Nat.reduceMul, Nat.reduceSub, Nat.reduceLeDiff, reduceCtorEq])
    | (with_reducible refine aw_drw (by kernel_rfl) kOk_nil kDet_nil ?_; simp only [go_sem, reduceIte, Nat.reduceLT, Nat.reduceEqDiff, Nat.reduceAdd, Nat.reduceMul, Nat.reduceSub, Nat.reduceLeDiff, reduceCtorEq])
    | (with_reducible refine aw_reg kOk_nil ?_; simp only [go_sem, reduceIte, Nat.reduceLT, Nat.reduceEqDiff, Nat.reduceAdd, Nat.reduceMul, Nat.reduceSub, Nat.reduceLeDiff, reduceCtorEq])
    | (with_reducible refine aw_if ?_; simp only [go_sem, reduceIte, Nat.reduceLT, Nat.reduceEqDiff, Nat.reduceAdd, Nat.reduceMul, Nat.reduceSub, Nat.reduceLeDiff, reduceCtorEq])
    | (with_reducible refine aw_block ?_)
    | (with_reducible refine aw_ret ?_; (try simp only [thenQ, blockQ]); refine aw_ret' ?_; simp only [go_sem, reduceIte, Nat.reduceLT, Nat.reduceEqDiff, Nat.reduceAdd, Nat.reduceMul, Nat.reduceSub, Nat.reduceLeDiff, reduceCtorEq])
    | (with_reducible refine aw_exit ?_; simp only [thenQ, blockQ, reduceIte, Nat.reduceEqDiff])
    | (with_reducible refine aw_skip ?_; simp only [thenQ, blockQ])
    | (with_reducible refine gate_intro (fun h => ?_) (fun h => ?_) <;> simp only [h, go_sem, reduceIte, Nat.reduceLT, Nat.reduceEqDiff, Nat.reduceAdd, Nat.reduceMul, Nat.reduceSub, Nat.reduceLeDiff, reduceCtorEq] <;> (try simp only [decide_eq_true_eq, decide_eq_false_iff_not, Bool.not_true] at h))
    | (with_reducible refine chk_in (by kernel_rfl) ?_)
    | (with_reducible refine And.intro (And.intro (by omega) (by omega)) ?_)
    | (with_reducible refine And.intro (by omega) ?_)
    | (rw [get_in]; rotate_left; omega; simp only [go_sem, reduceIte, Nat.reduceLT, Nat.reduceEqDiff, Nat.reduceAdd, Nat.reduceMul, Nat.reduceSub, Nat.reduceLeDiff, reduceCtorEq])
    | fail)
  rfl
abbrev eeClC : Con where
  α := List EE × Nat × EE
  kinds := [false, false, false, false]
  args := fun a => [.d (i64 a.2.1), .d (.rp 1 [[.fn 17 [] []]] 0 0), .d (.rp 1 [[.sl 8 (eeR a.1)]] 0 0), .d (.rp 8 [eeD a.2.2] 0 0)]
  pre := fun a => a.2.1 < a.1.length
  post := fun a r => r = ⟨[.d (bl (decide (a.1[a.2.1]? = some a.2.2)))], []⟩
  clean := true
theorem eeSame_call {K : Kt} (hk : K 17 = some eeSameC) {np fid : Nat} {M : Mem} {nx : D → Mem → Prop} (s t : EE) (hf : M fid = none) (hn : nx (bl (decide (s = t))) M) : semCall K np 17 [.agg (eeD s), .agg (eeD t)] M fid nx :=
  call_fn hk rfl rfl (fun _ _ h => h) (s, t) rfl trivial hf hn
theorem eeCl_ok : CallOk Try.prog 59 eeClC := by
  refine ok_of_body' 13 4 Try.func59 rfl (by decide) Try.ntmps59 (by intro a h; exact ⟨rfl, rfl⟩) (by decide) (by rintro _ a r _ rfl; rfl) ?_
  rintro ⟨l, j, e⟩ hp
  simp only [eeClC] at hp ⊢
  simp only [initE, initMm, List.length_cons, List.length_nil, Nat.reduceAdd]
  obtain ⟨x, hx⟩ : ∃ s, l[j]? = some s := ⟨_, List.getElem?_eq_getElem hp⟩
  have s1 : eeSameC.srt = none := rfl
  have c1 : eeSameC.clean = true := rfl
  have hK : KOk Try.prog (kOf [(17, eeSameC)]) := kOk_cons eeSame_ok kOk_nil
  have hD : KDet (kOf [(17, eeSameC)]) := kDet_cons (fun _ _ => ⟨_, rfl, by simp, fun _ h => h⟩) kDet_nil
  repeat' (first
    | (with_reducible refine aw_seq ?_)
    | (with_reducible refine kont_in ?_; simp only [go_sem, reduceIte, Nat.reduceLT, Nat.reduceEqDiff, Nat.reduceAdd, Nat.reduceMul, Nat.reduceSub, Nat.reduceLeDiff, reduceCtorEq, hx, s1, c1])
    | (with_reducible refine dKont_in ?_; simp only [go_sem, reduceIte, Nat.reduceLT, Nat.reduceEqDiff, Nat.reduceAdd, Nat.reduceMul, Nat.reduceSub, Nat.reduceLeDiff, reduceCtorEq, hx, s1, c1])
    | (with_reducible refine aw_drw (by kernel_rfl) hK hD ?_; simp only [go_sem, reduceIte, Nat.reduceLT, Nat.reduceEqDiff, Nat.reduceAdd, Nat.reduceMul, Nat.reduceSub, Nat.reduceLeDiff, reduceCtorEq, hx, s1, c1])
    | (with_reducible refine aw_reg hK ?_; simp only [go_sem, reduceIte, Nat.reduceLT, Nat.reduceEqDiff, Nat.reduceAdd, Nat.reduceMul, Nat.reduceSub, Nat.reduceLeDiff, reduceCtorEq, hx, s1, c1])
    | (with_reducible refine aw_if ?_; simp only [go_sem, reduceIte, Nat.reduceLT, Nat.reduceEqDiff, Nat.reduceAdd, Nat.reduceMul, Nat.reduceSub, Nat.reduceLeDiff, reduceCtorEq, hx, s1, c1])
    | (with_reducible refine aw_block ?_)
    | (with_reducible refine aw_ret ?_; (try simp only [thenQ, blockQ]); refine aw_ret' ?_; simp only [go_sem, reduceIte, Nat.reduceLT, Nat.reduceEqDiff, Nat.reduceAdd, Nat.reduceMul, Nat.reduceSub, Nat.reduceLeDiff, reduceCtorEq, hx, s1, c1])
    | (with_reducible refine aw_exit ?_; simp only [thenQ, blockQ, reduceIte, Nat.reduceEqDiff])
    | (with_reducible refine aw_skip ?_; simp only [thenQ, blockQ])
    | (with_reducible refine gate_intro (fun h => ?_) (fun h => ?_) <;> simp only [h, go_sem, reduceIte, Nat.reduceLT, Nat.reduceEqDiff, Nat.reduceAdd, Nat.reduceMul, Nat.reduceSub, Nat.reduceLeDiff, reduceCtorEq, hx, s1, c1] <;> (try simp only [decide_eq_true_eq, decide_eq_false_iff_not, Bool.not_true] at h))
    | (with_reducible refine chk_in (by kernel_rfl) ?_)
    | (with_reducible refine And.intro (And.intro (by omega) (by omega)) ?_)
    | (with_reducible refine And.intro (by omega) ?_)
    | (refine eeSame_call rfl x e rfl ?_)
    | (rw [get_in]; rotate_left; omega; simp only [go_sem, reduceIte, Nat.reduceLT, Nat.reduceEqDiff, Nat.reduceAdd, Nat.reduceMul, Nat.reduceSub, Nat.reduceLeDiff, reduceCtorEq, hx, s1, c1])
    | fail)
  simp only [hx, Option.some.injEq]

theorem eeKey_call {K : Kt} (hk : K 39 = some eeKeyC) {np fid : Nat} {M : Mem} {nx : D → Mem → Prop} (s : EE) (hf : M fid = none) (hn : nx (.agg (stD s.1)) M) : semCall K np 39 [.agg (eeD s)] M fid nx :=
  call_fn hk rfl rfl (fun _ _ h => h) s rfl trivial hf hn
theorem eeCl_call {K : Kt} (hk : K 59 = some eeClC) {np fid : Nat} {M : Mem} {nx : D → Mem → Prop} (l : List EE) (j : Nat) (e : EE) (hj : j < l.length) (hf : M fid = none) (hn : nx (bl (decide (l[j]? = some e))) M) :
    semCall K np 59 [i64 j, .rp 1 [[.fn 17 [] []]] 0 0, .rp 1 [[.sl 8 (eeR l)]] 0 0, .rp 8 [eeD e] 0 0] M fid nx :=
  call_fn hk rfl rfl (fun _ _ h => h) (l, j, e) rfl hj hf hn

abbrev eeIxC : Con where
  α := List EE × List Nat × EE
  kinds := [false, false]
  args := fun a => [.d (.sl 1 (intL (natI a.2.1))), .d (.fn 59 [] [.rp 1 [[.fn 17 [] []]] 0 0, .rp 1 [[.sl 8 (eeR a.1)]] 0 0, .rp 8 [eeD a.2.2] 0 0])]
  pre := fun a => (∀ j, j ∈ a.2.1 → j < a.1.length) ∧ a.2.1.length ≤ 1000000
  post := fun a r => r = ⟨[.d (i64 (ixI a.1 a.2.1 a.2.2))], []⟩
  clean := true
theorem eeIx_ok : CallOk Try.prog 58 eeIxC := by
  refine ok_of_body' 19 2 Try.func58 rfl (by decide) Try.ntmps58 (by intro a h; exact ⟨rfl, rfl⟩) (by decide) (by rintro _ a r _ rfl; rfl) ?_
  rintro ⟨l, g, e⟩ ⟨hp, hl⟩
  simp only [eeIxC] at hp hl ⊢
  simp only [initE, initMm, List.length_cons, List.length_nil, Nat.reduceAdd]
  have s1 : eeClC.srt = none := rfl
  have c1 : eeClC.clean = true := rfl
  have hK : KOk Try.prog (kOf [(59, eeClC)]) := kOk_cons eeCl_ok kOk_nil
  have hD : KDet (kOf [(59, eeClC)]) := kDet_cons (fun _ _ => ⟨_, rfl, by simp, fun _ h => h⟩) kDet_nil
  repeat' (first
    | (with_reducible refine aw_seq ?_)
    | (with_reducible refine kont_in ?_; simp only [go_sem, reduceIte, Nat.reduceLT, Nat.reduceEqDiff, Nat.reduceAdd, Nat.reduceMul, Nat.reduceSub, Nat.reduceLeDiff, reduceCtorEq, s1, c1])
    | (with_reducible refine dKont_in ?_; simp only [go_sem, reduceIte, Nat.reduceLT, Nat.reduceEqDiff, Nat.reduceAdd, Nat.reduceMul, Nat.reduceSub, Nat.reduceLeDiff, reduceCtorEq, s1, c1])
    | (with_reducible refine aw_drw (by kernel_rfl) hK hD ?_; simp only [go_sem, reduceIte, Nat.reduceLT, Nat.reduceEqDiff, Nat.reduceAdd, Nat.reduceMul, Nat.reduceSub, Nat.reduceLeDiff, reduceCtorEq, s1, c1])
    | (with_reducible refine aw_reg hK ?_; simp only [go_sem, reduceIte, Nat.reduceLT, Nat.reduceEqDiff, Nat.reduceAdd, Nat.reduceMul, Nat.reduceSub, Nat.reduceLeDiff, reduceCtorEq, s1, c1])
    | (with_reducible refine aw_if ?_; simp only [go_sem, reduceIte, Nat.reduceLT, Nat.reduceEqDiff, Nat.reduceAdd, Nat.reduceMul, Nat.reduceSub, Nat.reduceLeDiff, reduceCtorEq, s1, c1])
    | (with_reducible refine aw_block ?_)
    | (with_reducible refine aw_ret ?_; (try simp only [thenQ, blockQ]); refine aw_ret' ?_; simp only [go_sem, reduceIte, Nat.reduceLT, Nat.reduceEqDiff, Nat.reduceAdd, Nat.reduceMul, Nat.reduceSub, Nat.reduceLeDiff, reduceCtorEq, s1, c1])
    | (with_reducible refine aw_exit ?_; simp only [thenQ, blockQ, reduceIte, Nat.reduceEqDiff])
    | (with_reducible refine aw_skip ?_; simp only [thenQ, blockQ])
    | (with_reducible refine gate_intro (fun h => ?_) (fun h => ?_) <;> simp only [h, go_sem, reduceIte, Nat.reduceLT, Nat.reduceEqDiff, Nat.reduceAdd, Nat.reduceMul, Nat.reduceSub, Nat.reduceLeDiff, reduceCtorEq, s1, c1] <;> (try simp only [decide_eq_true_eq, decide_eq_false_iff_not, Bool.not_true] at h))
    | (with_reducible refine chk_in (by kernel_rfl) ?_)
    | (with_reducible refine And.intro (And.intro (by omega) (by omega)) ?_)
    | (with_reducible refine And.intro (by omega) ?_)
    | (rw [get_in]; rotate_left; omega; simp only [go_sem, reduceIte, Nat.reduceLT, Nat.reduceEqDiff, Nat.reduceAdd, Nat.reduceMul, Nat.reduceSub, Nat.reduceLeDiff, reduceCtorEq, s1, c1])
    | fail)
  refine aw_rounds (α := Nat) (fun i => ⟨envOf [(8, i64 i), (7, i64 g.length), (4, i64 0), (0, .sl 1 (intL (natI g))), (1, .fn 59 [] [.rp 1 [[.fn 17 [] []]] 0 0, .rp 1 [[.sl 8 (eeR l)]] 0 0, .rp 8 [eeD e] 0 0])], memOf [], 200⟩)
    (fun i => i ≤ g.length ∧ ∀ q j, q < i → g[q]? = some j → l[j]? ≠ some e) (fun i => g.length - i) 0 ⟨Nat.zero_le _, by intro q j h; omega⟩ (weak_in [] (by repeat' (first | trivial | constructor | rfl)) (by repeat' (first | trivial | constructor | rfl)) (by rfl) (by rfl) (by rfl)) ?_
  rintro i ⟨hi, hI⟩
  cases hx : g[i]? with
  | none =>
    have hge : g.length ≤ i := by simpa using hx
    have hc : decide ((i : Int) < (g.length : Int)) = false := by simp <;> omega
    repeat' (first
    | (with_reducible refine aw_seq ?_)
    | (with_reducible refine kont_in ?_; simp only [go_sem, reduceIte, Nat.reduceLT, Nat.reduceEqDiff, Nat.reduceAdd, Nat.reduceMul, Nat.reduceSub, Nat.reduceLeDiff, reduceCtorEq, hc, s1, c1])
    | (with_reducible refine dKont_in ?_; simp only [go_sem, reduceIte, Nat.reduceLT, Nat.reduceEqDiff, Nat.reduceAdd, Nat.reduceMul, Nat.reduceSub, Nat.reduceLeDiff, reduceCtorEq, hc, s1, c1])
    | (with_reducible refine aw_drw (by kernel_rfl) hK hD ?_; simp only [go_sem, reduceIte, Nat.reduceLT, Nat.reduceEqDiff, Nat.reduceAdd, Nat.reduceMul, Nat.reduceSub, Nat.reduceLeDiff, reduceCtorEq, hc, s1, c1])
    | (with_reducible refine aw_reg hK ?_; simp only [go_sem, reduceIte, Nat.reduceLT, Nat.reduceEqDiff, Nat.reduceAdd, Nat.reduceMul, Nat.reduceSub, Nat.reduceLeDiff, reduceCtorEq, hc, s1, c1])
    | (with_reducible refine aw_if ?_; simp only [go_sem, reduceIte, Nat.reduceLT, Nat.reduceEqDiff, Nat.reduceAdd, Nat.reduceMul, Nat.reduceSub, Nat.reduceLeDiff, reduceCtorEq, hc, s1, c1])
    | (with_reducible refine aw_block ?_)
    | (with_reducible refine aw_ret ?_; (try simp only [thenQ, blockQ]); refine aw_ret' ?_; simp only [go_sem, reduceIte, Nat.reduceLT, Nat.reduceEqDiff, Nat.reduceAdd, Nat.reduceMul, Nat.reduceSub, Nat.reduceLeDiff, reduceCtorEq, hc, s1, c1])
    | (with_reducible refine aw_exit ?_; simp only [thenQ, blockQ, reduceIte, Nat.reduceEqDiff])
    | (with_reducible refine aw_skip ?_; simp only [thenQ, blockQ])
    | (with_reducible refine gate_intro (fun h => ?_) (fun h => ?_) <;> simp only [h, go_sem, reduceIte, Nat.reduceLT, Nat.reduceEqDiff, Nat.reduceAdd, Nat.reduceMul, Nat.reduceSub, Nat.reduceLeDiff, reduceCtorEq, hc, s1, c1] <;> (try simp only [decide_eq_true_eq, decide_eq_false_iff_not, Bool.not_true] at h))
    | (with_reducible refine chk_in (by kernel_rfl) ?_)
    | (with_reducible refine And.intro (And.intro (by omega) (by omega)) ?_)
    | (with_reducible refine And.intro (by omega) ?_)
    | (rw [get_in]; rotate_left; omega; simp only [go_sem, reduceIte, Nat.reduceLT, Nat.reduceEqDiff, Nat.reduceAdd, Nat.reduceMul, Nat.reduceSub, Nat.reduceLeDiff, reduceCtorEq, hc, s1, c1])
    | fail)
    rw [ixI_none fun j hj he => ?_]
    obtain ⟨q, hq, hq'⟩ := List.getElem_of_mem hj
    exact hI q j (by omega) (by rw [List.getElem?_eq_getElem hq, hq']) he
  | some j =>
    have hlt : i < g.length := by
      rcases Nat.lt_or_ge i g.length with h | h
      · exact h
      · rw [List.getElem?_eq_none h] at hx; cases hx
    have hc : decide ((i : Int) < (g.length : Int)) = true := by simp <;> omega
    have hj : j < l.length := hp j (List.mem_of_getElem? hx)
    have hw := wrS (i := i) (by omega)
    repeat' (first
    | (with_reducible refine aw_seq ?_)
    | (with_reducible refine kont_in ?_; simp only [go_sem, reduceIte, Nat.reduceLT, Nat.reduceEqDiff, Nat.reduceAdd, Nat.reduceMul, Nat.reduceSub, Nat.reduceLeDiff, reduceCtorEq, hc, hw, hx, s1, c1])
    | (with_reducible refine dKont_in ?_; simp only [go_sem, reduceIte, Nat.reduceLT, Nat.reduceEqDiff, Nat.reduceAdd, Nat.reduceMul, Nat.reduceSub, Nat.reduceLeDiff, reduceCtorEq, hc, hw, hx, s1, c1])
    | (with_reducible refine aw_drw (by kernel_rfl) hK hD ?_; simp only [go_sem, reduceIte, Nat.reduceLT, Nat.reduceEqDiff, Nat.reduceAdd, Nat.reduceMul, Nat.reduceSub, Nat.reduceLeDiff, reduceCtorEq, hc, hw, hx, s1, c1])
    | (with_reducible refine aw_reg hK ?_; simp only [go_sem, reduceIte, Nat.reduceLT, Nat.reduceEqDiff, Nat.reduceAdd, Nat.reduceMul, Nat.reduceSub, Nat.reduceLeDiff, reduceCtorEq, hc, hw, hx, s1, c1])
    | (with_reducible refine aw_if ?_; simp only [go_sem, reduceIte, Nat.reduceLT, Nat.reduceEqDiff, Nat.reduceAdd, Nat.reduceMul, Nat.reduceSub, Nat.reduceLeDiff, reduceCtorEq, hc, hw, hx, s1, c1])
    | (with_reducible refine aw_block ?_)
    | (with_reducible refine aw_ret ?_; (try simp only [thenQ, blockQ]); refine aw_ret' ?_; simp only [go_sem, reduceIte, Nat.reduceLT, Nat.reduceEqDiff, Nat.reduceAdd, Nat.reduceMul, Nat.reduceSub, Nat.reduceLeDiff, reduceCtorEq, hc, hw, hx, s1, c1])
    | (with_reducible refine aw_exit ?_; simp only [thenQ, blockQ, reduceIte, Nat.reduceEqDiff])
    | (with_reducible refine aw_skip ?_; simp only [thenQ, blockQ])
    | (with_reducible refine gate_intro (fun h => ?_) (fun h => ?_) <;> simp only [h, go_sem, reduceIte, Nat.reduceLT, Nat.reduceEqDiff, Nat.reduceAdd, Nat.reduceMul, Nat.reduceSub, Nat.reduceLeDiff, reduceCtorEq, hc, hw, hx, s1, c1] <;> (try simp only [decide_eq_true_eq, decide_eq_false_iff_not, Bool.not_true] at h))
    | (with_reducible refine chk_in (by kernel_rfl) ?_)
    | (with_reducible refine And.intro (And.intro (by omega) (by omega)) ?_)
    | (with_reducible refine And.intro (by omega) ?_)
    | (refine eeCl_call rfl l j e hj rfl ?_)
    | (rw [get_in]; rotate_left; omega; simp only [go_sem, reduceIte, Nat.reduceLT, Nat.reduceEqDiff, Nat.reduceAdd, Nat.reduceMul, Nat.reduceSub, Nat.reduceLeDiff, reduceCtorEq, hc, hw, hx, s1, c1])
    | fail)
    · rw [ixI_at hlt (fun j' h' => by rw [hx] at h'; cases h'; simpa using h) (fun q j' hq hj' => hI q j' hq hj')]
    · refine ⟨i + 1, weak_in [] (by repeat' (first | trivial | constructor | rfl)) (by repeat' (first | trivial | constructor | rfl)) (by rfl) (by rfl) (by rfl), ⟨by omega, fun q j' hq hj' => ?_⟩, by omega⟩
      rcases Nat.lt_or_ge q i with h' | h'
      · exact hI q j' h' hj'
      · have : q = i := by omega
        subst this; rw [hx] at hj'; cases hj'; simpa using h
end Go.Proofs.R1

/- Events of entries: events.Canonical. -/
set_option linter.unusedVariables false
set_option linter.unusedSimpArgs false
set_option maxRecDepth 8000
set_option maxHeartbeats 16000000
namespace Go.Proofs.R1
open Go Go.Abs

abbrev evcC : Con where
  α := List EE
  kinds := [false, false, false]
  args := fun l => [.d (.sl 8 (eeR l)), .d (.fn 39 [] []), .d (.fn 17 [] [])]
  pre := fun l => l.length ≤ 1000000
  post := fun l r => r = ⟨[.own 1 (intL (canR (l.map (·.1)) (clsI l)).1), .d (i64 (canR (l.map (·.1)) (clsI l)).2)], []⟩
  clean := true
theorem eeIx_call {K : Kt} (hk : K 58 = some (nilC eeIxC)) {np fid : Nat} {M : Mem} {nx : D → Mem → Prop} (l : List EE) (g : List Nat) (e : EE) {x : D} {caps : List D} {y : D} (hx : fz M true 4 x = some y) (hy : y = .sl 1 (intL (natI g)) ∨ (y = .nils ∧ g = []))
    (hc : mapO (fz M true 3) caps = some [.rp 1 [[.fn 17 [] []]] 0 0, .rp 1 [[.sl 8 (eeR l)]] 0 0, .rp 8 [eeD e] 0 0])
    (hp : (∀ j, j ∈ g → j < l.length) ∧ g.length ≤ 1000000) (hf : M fid = none) (hn : nx (i64 (ixI l g e)) M) :
    semCall K np 58 [x, .fn 59 [] caps] M fid nx := by
  refine call_fn (c := nilC eeIxC) (res := fun a => i64 (ixI a.2.1 a.2.2.1 a.2.2.2)) hk rfl rfl (fun _ _ h => h) ([.d y, .d (.fn 59 [] [.rp 1 [[.fn 17 [] []]] 0 0, .rp 1 [[.sl 8 (eeR l)]] 0 0, .rp 8 [eeD e] 0 0])], (l, g, e)) ?_ ⟨?_, hp⟩ hf hn
  · simp only [argsV, mapO, hx, fz, hc]; rfl
  · rcases hy with rfl | ⟨rfl, rfl⟩
    · exact .refl _
    · exact .z _ _ _ (.refl _)
theorem evc_ok : CallOk Try.prog 38 evcC := by
  refine ok_of_body_own 70 3 Try.func38 rfl (by decide) Try.ntmps38 (by intro a h; exact ⟨rfl, rfl⟩) (by decide) (by rintro _ a r _ rfl; simp [plainRD, plainD, plainC, intL]) ?_
  rintro l hl
  simp only [evcC] at hl ⊢
  simp only [initE, initMm, List.length_cons, List.length_nil, Nat.reduceAdd]
  have s1 : eeKeyC.srt = none := rfl
  have c1 : eeKeyC.clean = true := rfl
  have s2 : (nilC eeIxC).srt = none := rfl
  have c2 : (nilC eeIxC).clean = true := rfl
  have s3 : canC.srt = none := rfl
  have c3 : canC.clean = true := rfl
  have hK : KOk Try.prog (kOf [(39, eeKeyC), (58, nilC eeIxC), (60, canC)]) := kOk_cons eeKey_ok (kOk_cons (nilC_ok eeIx_ok) (kOk_cons canP_ok kOk_nil))
  repeat' (first
    | (with_reducible refine aw_seq ?_)
    | (with_reducible refine kont_in ?_; simp only [go_sem, reduceIte, Nat.reduceLT, Nat.reduceEqDiff, Nat.reduceAdd, Nat.reduceMul, Nat.reduceSub, Nat.reduceLeDiff, reduceCtorEq, s1, c1, s2, c2, s3, c3])
    | (with_reducible refine dKont_in ?_; simp only [go_sem, reduceIte, Nat.reduceLT, Nat.reduceEqDiff, Nat.reduceAdd, Nat.reduceMul, Nat.reduceSub, Nat.reduceLeDiff, reduceCtorEq, s1, c1, s2, c2, s3, c3])
    | (with_reducible refine aw_drw (by kernel_rfl) kOk_nil kDet_nil ?_; simp only [go_sem, reduceIte, Nat.reduceLT, Nat.reduceEqDiff, Nat.reduceAdd, Nat.reduceMul, Nat.reduceSub, Nat.reduceLeDiff, reduceCtorEq, s1, c1, s2, c2, s3, c3])
    | (with_reducible refine aw_reg hK ?_; simp only [go_sem, reduceIte, Nat.reduceLT, Nat.reduceEqDiff, Nat.reduceAdd, Nat.reduceMul, Nat.reduceSub, Nat.reduceLeDiff, reduceCtorEq, s1, c1, s2, c2, s3, c3])
    | (with_reducible refine aw_if ?_; simp only [go_sem, reduceIte, Nat.reduceLT, Nat.reduceEqDiff, Nat.reduceAdd, Nat.reduceMul, Nat.reduceSub, Nat.reduceLeDiff, reduceCtorEq, s1, c1, s2, c2, s3, c3])
    | (with_reducible refine aw_block ?_)
    | (with_reducible refine aw_ret ?_; (try simp only [thenQ, blockQ]); refine aw_ret' ?_; simp only [go_sem, reduceIte, Nat.reduceLT, Nat.reduceEqDiff, Nat.reduceAdd, Nat.reduceMul, Nat.reduceSub, Nat.reduceLeDiff, reduceCtorEq, s1, c1, s2, c2, s3, c3])
    | (with_reducible refine aw_exit ?_; simp only [thenQ, blockQ, reduceIte, Nat.reduceEqDiff])
    | (with_reducible refine aw_skip ?_; simp only [thenQ, blockQ])
    | (with_reducible refine gate_intro (fun h => ?_) (fun h => ?_) <;> simp only [h, go_sem, reduceIte, Nat.reduceLT, Nat.reduceEqDiff, Nat.reduceAdd, Nat.reduceMul, Nat.reduceSub, Nat.reduceLeDiff, reduceCtorEq, s1, c1, s2, c2, s3, c3] <;> (try simp only [decide_eq_true_eq, decide_eq_false_iff_not, Bool.not_true] at h))
    | (with_reducible refine chk_in (by kernel_rfl) ?_)
    | (with_reducible refine And.intro (And.intro (by omega) (by omega)) ?_)
    | (with_reducible refine And.intro (by omega) ?_)
    | (rw [get_in]; rotate_left; omega; simp only [go_sem, reduceIte, Nat.reduceLT, Nat.reduceEqDiff, Nat.reduceAdd, Nat.reduceMul, Nat.reduceSub, Nat.reduceLeDiff, reduceCtorEq, s1, c1, s2, c2, s3, c3])
    | fail)
  have hz : List.replicate l.length [D.v (Value.int IntKind.i64 0), D.v (Value.int IntKind.i64 0), D.v (Value.int IntKind.i64 0)] = stR (List.replicate l.length (0, 0, 0)) := by simp [stR, stD]
  have hz1 : List.replicate l.length [D.v (Value.int IntKind.i64 0)] = intL (List.replicate l.length 0) := by simp [intL]
  simp only [hz, hz1]
  refine aw_rmap 51 rfl ?_
  refine aw_weak (t := ⟨envOf [(24, i64 0), (23, i64 l.length), (22, .sl 8 (eeR l)), (10, .mp 102), (9, .row 101), (8, .row 100), (5, .box 104 0), (3, .box 103 0), (1, .fn 39 [] [])], memOf [(102, .rmap []), (100, .row 3 (stR (List.replicate l.length (0, 0, 0))) true), (101, .row 1 (intL (List.replicate l.length 0)) true), (103, .cells [.sl 8 (eeR l)]), (104, .cells [.fn 17 [] []])], 200⟩) (weak_in [(102, 51), (100, 27), (101, 39), (103, 3), (104, 7)] (by repeat' (first | trivial | constructor | rfl)) (by repeat' (first | trivial | constructor | rfl)) (by rfl) (by rfl) (by rfl)) ?_
  refine aw_rounds (α := Nat × List St × List Int × List St) (fun x => ⟨envOf [(24, i64 x.1), (23, i64 l.length), (22, .sl 8 (eeR l)), (10, .mp 102), (9, .row 101), (8, .row 100), (5, .box 104 0), (3, .box 103 0), (1, .fn 39 [] [])],
      memOf (((102, .rmap (kvE stD 1000 x.2.2.2)) :: [(100, .row 3 (stR x.2.1) true), (101, .row 1 (intL x.2.2.1) true), (103, .cells [.sl 8 (eeR l)]), (104, .cells [.fn 17 [] []])]) ++ famE 1 (evG (·.1) l x.1) 1000 x.2.2.2), 200⟩)
    (fun x => EvInv (·.1) l x.1 x.2.1 x.2.2.1 x.2.2.2) (fun x => l.length - x.1) (0, List.replicate l.length (0, 0, 0), List.replicate l.length 0, []) ⟨Nat.zero_le _, by simp, by simp, by intro j e h; omega, by intro j h; omega, .nil⟩
    (by simp only [kvE, famE, List.append_nil]; exact .refl _) ?_
  rintro ⟨i, S, C, Ks⟩ hI
  simp only at hI ⊢
  have hfree : ∀ k, k < 1000 → memOf (famE 1 (evG (·.1) l i) 1000 Ks) k = none := fun k hk => famE_low hk
  have hi := hI.le
  cases hx : l[i]? with
  | none =>
    have hge : l.length ≤ i := by simpa using hx
    have hc : decide ((i : Int) < (l.length : Int)) = false := by simp <;> omega
    obtain ⟨hS, hC⟩ := hI.done hge
    subst hS; subst hC
    refine aw_weak (t := ⟨envOf [(24, i64 i), (23, i64 l.length), (9, .row 101), (8, .row 100)], memOf [(100, .row 3 (stR (l.map (·.1))) true), (101, .row 1 (intL (clsI l)) true)], 200⟩) (weak_in [(100, 100), (101, 101)] (by repeat' (first | trivial | constructor | rfl)) (by repeat' (first | trivial | constructor | rfl)) (by rfl) (by rfl) (by simp [List.range_succ, memOf, hfree])) ?_
    repeat' (first
    | (with_reducible refine aw_seq ?_)
    | (with_reducible refine kont_in ?_; simp only [go_sem, reduceIte, Nat.reduceLT, Nat.reduceEqDiff, Nat.reduceAdd, Nat.reduceMul, Nat.reduceSub, Nat.reduceLeDiff, reduceCtorEq, hc, s1, c1, s2, c2, s3, c3])
    | (with_reducible refine dKont_in ?_; simp only [go_sem, reduceIte, Nat.reduceLT, Nat.reduceEqDiff, Nat.reduceAdd, Nat.reduceMul, Nat.reduceSub, Nat.reduceLeDiff, reduceCtorEq, hc, s1, c1, s2, c2, s3, c3])
    | (with_reducible refine aw_drw (by kernel_rfl) hK kDet_nil ?_; simp only [go_sem, reduceIte, Nat.reduceLT, Nat.reduceEqDiff, Nat.reduceAdd, Nat.reduceMul, Nat.reduceSub, Nat.reduceLeDiff, reduceCtorEq, hc, s1, c1, s2, c2, s3, c3])
    | (with_reducible refine aw_reg hK ?_; simp only [go_sem, reduceIte, Nat.reduceLT, Nat.reduceEqDiff, Nat.reduceAdd, Nat.reduceMul, Nat.reduceSub, Nat.reduceLeDiff, reduceCtorEq, hc, s1, c1, s2, c2, s3, c3])
    | (with_reducible refine aw_if ?_; simp only [go_sem, reduceIte, Nat.reduceLT, Nat.reduceEqDiff, Nat.reduceAdd, Nat.reduceMul, Nat.reduceSub, Nat.reduceLeDiff, reduceCtorEq, hc, s1, c1, s2, c2, s3, c3])
    | (with_reducible refine aw_block ?_)
    | (with_reducible refine aw_ret ?_; (try simp only [thenQ, blockQ]); refine aw_ret' ?_; simp only [go_sem, reduceIte, Nat.reduceLT, Nat.reduceEqDiff, Nat.reduceAdd, Nat.reduceMul, Nat.reduceSub, Nat.reduceLeDiff, reduceCtorEq, hc, s1, c1, s2, c2, s3, c3])
    | (with_reducible refine aw_exit ?_; simp only [thenQ, blockQ, reduceIte, Nat.reduceEqDiff])
    | (with_reducible refine aw_skip ?_; simp only [thenQ, blockQ])
    | (with_reducible refine gate_intro (fun h => ?_) (fun h => ?_) <;> simp only [h, go_sem, reduceIte, Nat.reduceLT, Nat.reduceEqDiff, Nat.reduceAdd, Nat.reduceMul, Nat.reduceSub, Nat.reduceLeDiff, reduceCtorEq, hc, s1, c1, s2, c2, s3, c3] <;> (try simp only [decide_eq_true_eq, decide_eq_false_iff_not, Bool.not_true] at h))
    | (with_reducible refine chk_in (by kernel_rfl) ?_)
    | (with_reducible refine And.intro (And.intro (by omega) (by omega)) ?_)
    | (with_reducible refine And.intro (by omega) ?_)
    | (refine canP_call rfl (l.map (·.1)) (clsI l) rfl rfl (by simp; omega) (memOf_free rfl) ?_)
    | (rw [get_in]; rotate_left; omega; simp only [go_sem, reduceIte, Nat.reduceLT, Nat.reduceEqDiff, Nat.reduceAdd, Nat.reduceMul, Nat.reduceSub, Nat.reduceLeDiff, reduceCtorEq, hc, s1, c1, s2, c2, s3, c3])
    | fail)
    exact ⟨_, rfl, .refl _, rfl⟩
  | some e =>
    have hlt : i < l.length := by
      rcases Nat.lt_or_ge i l.length with h | h
      · exact h
      · rw [List.getElem?_eq_none h] at hx; cases hx
    have hc : decide ((i : Int) < (l.length : Int)) = true := by simp <;> omega
    have hw := wrS (i := i) (by omega)
    obtain ⟨s0, hs0⟩ : ∃ s, S[i]? = some s := ⟨_, List.getElem?_eq_getElem (by rw [hI.sl]; exact hlt)⟩
    obtain ⟨c0, hc0⟩ : ∃ s, C[i]? = some s := ⟨_, List.getElem?_eq_getElem (by rw [hI.cl]; exact hlt)⟩
    have hsl := hI.sl
    have hcl := hI.cl
    by_cases hm : e.1 ∈ Ks
    case neg =>
      have hf := find_no hm 1000 0
      obtain ⟨hg, hcn⟩ := hI.k.fresh hx hm
      have hix : ixI l [] e = -1 := rfl
      have hd1 : decide ((-1 : Int) < 0) = true := rfl
      repeat' (first
    | (with_reducible refine aw_seq ?_)
    | (with_reducible refine kont_in ?_; simp only [go_sem, reduceIte, Nat.reduceLT, Nat.reduceEqDiff, Nat.reduceAdd, Nat.reduceMul, Nat.reduceSub, Nat.reduceLeDiff, reduceCtorEq, hc, hw, hx, hs0, hc0, hsl, hcl, hfree, hf, hix, hd1, setR, s1, c1, s2, c2, s3, c3])
    | (with_reducible refine dKont_in ?_; simp only [go_sem, reduceIte, Nat.reduceLT, Nat.reduceEqDiff, Nat.reduceAdd, Nat.reduceMul, Nat.reduceSub, Nat.reduceLeDiff, reduceCtorEq, hc, hw, hx, hs0, hc0, hsl, hcl, hfree, hf, hix, hd1, setR, s1, c1, s2, c2, s3, c3])
    | (with_reducible refine aw_drw (by kernel_rfl) kOk_nil kDet_nil ?_; simp only [go_sem, reduceIte, Nat.reduceLT, Nat.reduceEqDiff, Nat.reduceAdd, Nat.reduceMul, Nat.reduceSub, Nat.reduceLeDiff, reduceCtorEq, hc, hw, hx, hs0, hc0, hsl, hcl, hfree, hf, hix, hd1, setR, s1, c1, s2, c2, s3, c3])
    | (with_reducible refine aw_reg hK ?_; simp only [go_sem, reduceIte, Nat.reduceLT, Nat.reduceEqDiff, Nat.reduceAdd, Nat.reduceMul, Nat.reduceSub, Nat.reduceLeDiff, reduceCtorEq, hc, hw, hx, hs0, hc0, hsl, hcl, hfree, hf, hix, hd1, setR, s1, c1, s2, c2, s3, c3])
    | (with_reducible refine aw_if ?_; simp only [go_sem, reduceIte, Nat.reduceLT, Nat.reduceEqDiff, Nat.reduceAdd, Nat.reduceMul, Nat.reduceSub, Nat.reduceLeDiff, reduceCtorEq, hc, hw, hx, hs0, hc0, hsl, hcl, hfree, hf, hix, hd1, setR, s1, c1, s2, c2, s3, c3])
    | (with_reducible refine aw_block ?_)
    | (with_reducible refine aw_ret ?_; (try simp only [thenQ, blockQ]); refine aw_ret' ?_; simp only [go_sem, reduceIte, Nat.reduceLT, Nat.reduceEqDiff, Nat.reduceAdd, Nat.reduceMul, Nat.reduceSub, Nat.reduceLeDiff, reduceCtorEq, hc, hw, hx, hs0, hc0, hsl, hcl, hfree, hf, hix, hd1, setR, s1, c1, s2, c2, s3, c3])
    | (with_reducible refine aw_exit ?_; simp only [thenQ, blockQ, reduceIte, Nat.reduceEqDiff])
    | (with_reducible refine aw_skip ?_; simp only [thenQ, blockQ])
    | (with_reducible refine gate_intro (fun h => ?_) (fun h => ?_) <;> simp only [h, go_sem, reduceIte, Nat.reduceLT, Nat.reduceEqDiff, Nat.reduceAdd, Nat.reduceMul, Nat.reduceSub, Nat.reduceLeDiff, reduceCtorEq, hc, hw, hx, hs0, hc0, hsl, hcl, hfree, hf, hix, hd1, setR, s1, c1, s2, c2, s3, c3] <;> (try simp only [decide_eq_true_eq, decide_eq_false_iff_not, Bool.not_true] at h))
    | (with_reducible refine chk_in (by kernel_rfl) ?_)
    | (with_reducible refine And.intro (And.intro (by omega) (by omega)) ?_)
    | (with_reducible refine And.intro (by omega) ?_)
    | (refine eeKey_call rfl e (by simp only [go_sem, reduceIte, Nat.reduceLT, Nat.reduceEqDiff, Nat.reduceAdd, Nat.reduceMul, Nat.reduceSub, Nat.reduceLeDiff, reduceCtorEq, hfree]) ?_)
    | (refine eeIx_call rfl l [] e rfl (.inr ⟨rfl, rfl⟩) rfl ⟨by simp, by simp⟩ (by simp only [go_sem, reduceIte, Nat.reduceLT, Nat.reduceEqDiff, Nat.reduceAdd, Nat.reduceMul, Nat.reduceSub, Nat.reduceLeDiff, reduceCtorEq, hfree]) ?_)
    | (rw [get_in]; rotate_left; omega; simp only [go_sem, reduceIte, Nat.reduceLT, Nat.reduceEqDiff, Nat.reduceAdd, Nat.reduceMul, Nat.reduceSub, Nat.reduceLeDiff, reduceCtorEq, hc, hw, hx, hs0, hc0, hsl, hcl, hfree, hf, hix, hd1, setR, s1, c1, s2, c2, s3, c3])
    | fail)
      all_goals refine ⟨(i + 1, S.set i e.1, C.set i i, Ks ++ [e.1]), weak_join (N := 1000) (b := 348) (p := Ks.length) (ml' := [(102, .rmap (kvE stD 1000 (Ks ++ [e.1]))), (100, .row 3 (stR (S.set i e.1)) true), (101, .row 1 (intL (C.set i i)) true), (103, .cells [.sl 8 (eeR l)]), (104, .cells [.fn 17 [] []])]) [] (by repeat' (first | trivial | constructor | rfl)) ⟨⟨kv_new (by rfl), rfl⟩, ⟨rfl, rfl⟩, ⟨rfl, rfl⟩, ⟨rfl, rfl⟩, ⟨rfl, rfl⟩, trivial⟩
        (join_new hx hm hI.k (fun q s hq => ?_) rfl) (by decide) (by decide) (by decide) (by rfl) (by rfl) ?_, hI.next hx (by rw [hcn]) (hI.k.new hx hm), by simp only; omega⟩
      · simp only [memOf]
        repeat rw [if_neg (by omega)]
        rw [famE_get, if_pos (by omega), Nat.add_sub_cancel_left, hq]; rfl
      · intro j hj
        have : j = 0 ∨ j = 1 ∨ j = 2 := by omega
        rcases this with rfl | rfl | rfl <;> simp only [go_sem, reduceIte, Nat.reduceLT, Nat.reduceEqDiff, Nat.reduceAdd, Nat.reduceMul, Nat.reduceSub, Nat.reduceLeDiff, reduceCtorEq, hfree]
    case pos =>
      have hp := idx_get hm
      have hf := find_set hI.k.nd (b := 500) hp 1000 0
      rw [Nat.zero_add] at hf
      generalize Ks.idxOf e.1 = p at hp hf
      have hfree : ∀ k, k < 1000 → memOf ((famE 1 (evG (·.1) l i) 1000 Ks).filter fun q => q.1 != 1000 + p) k = none := fun k hk => memOf_lo (fun q hq => famE_ge q (List.mem_filter.1 hq).1) hk
      refine aw_weak (weak_hand (N := 1000) (a := 500) (m := 102) (y := 200) hp (by repeat' (first | trivial | constructor | rfl)) (by repeat' (first | trivial | constructor | rfl)) (by decide) (by decide) (by decide) (by decide) (by decide) (by decide) (by rfl) (by rfl)) ?_
      have hgl := (grp_bd (st := (·.1)) (s := e.1) hi hl).2
      have hset : (C.set i (i : Int))[i]? = some (i : Int) := by rw [List.getElem?_set_self (by rw [hcl]; exact hlt)]
      by_cases hcn : clsN l i = i
      · have hix := ix_new (st := (·.1)) hx hcn
        have hd1 : decide ((-1 : Int) < 0) = true := rfl
        repeat' (first
    | (with_reducible refine aw_seq ?_)
    | (with_reducible refine kont_in ?_; simp only [go_sem, reduceIte, Nat.reduceLT, Nat.reduceEqDiff, Nat.reduceAdd, Nat.reduceMul, Nat.reduceSub, Nat.reduceLeDiff, reduceCtorEq, hc, hw, hx, hs0, hc0, hsl, hcl, hfree, hf, hix, hd1, setR, List.set_set, s1, c1, s2, c2, s3, c3])
    | (with_reducible refine dKont_in ?_; simp only [go_sem, reduceIte, Nat.reduceLT, Nat.reduceEqDiff, Nat.reduceAdd, Nat.reduceMul, Nat.reduceSub, Nat.reduceLeDiff, reduceCtorEq, hc, hw, hx, hs0, hc0, hsl, hcl, hfree, hf, hix, hd1, setR, List.set_set, s1, c1, s2, c2, s3, c3])
    | (with_reducible refine aw_drw (by kernel_rfl) kOk_nil kDet_nil ?_; simp only [go_sem, reduceIte, Nat.reduceLT, Nat.reduceEqDiff, Nat.reduceAdd, Nat.reduceMul, Nat.reduceSub, Nat.reduceLeDiff, reduceCtorEq, hc, hw, hx, hs0, hc0, hsl, hcl, hfree, hf, hix, hd1, setR, List.set_set, s1, c1, s2, c2, s3, c3])
    | (with_reducible refine aw_reg hK ?_; simp only [go_sem, reduceIte, Nat.reduceLT, Nat.reduceEqDiff, Nat.reduceAdd, Nat.reduceMul, Nat.reduceSub, Nat.reduceLeDiff, reduceCtorEq, hc, hw, hx, hs0, hc0, hsl, hcl, hfree, hf, hix, hd1, setR, List.set_set, s1, c1, s2, c2, s3, c3])
    | (with_reducible refine aw_if ?_; simp only [go_sem, reduceIte, Nat.reduceLT, Nat.reduceEqDiff, Nat.reduceAdd, Nat.reduceMul, Nat.reduceSub, Nat.reduceLeDiff, reduceCtorEq, hc, hw, hx, hs0, hc0, hsl, hcl, hfree, hf, hix, hd1, setR, List.set_set, s1, c1, s2, c2, s3, c3])
    | (with_reducible refine aw_block ?_)
    | (with_reducible refine aw_ret ?_; (try simp only [thenQ, blockQ]); refine aw_ret' ?_; simp only [go_sem, reduceIte, Nat.reduceLT, Nat.reduceEqDiff, Nat.reduceAdd, Nat.reduceMul, Nat.reduceSub, Nat.reduceLeDiff, reduceCtorEq, hc, hw, hx, hs0, hc0, hsl, hcl, hfree, hf, hix, hd1, setR, List.set_set, s1, c1, s2, c2, s3, c3])
    | (with_reducible refine aw_exit ?_; simp only [thenQ, blockQ, reduceIte, Nat.reduceEqDiff])
    | (with_reducible refine aw_skip ?_; simp only [thenQ, blockQ])
    | (with_reducible refine gate_intro (fun h => ?_) (fun h => ?_) <;> simp only [h, go_sem, reduceIte, Nat.reduceLT, Nat.reduceEqDiff, Nat.reduceAdd, Nat.reduceMul, Nat.reduceSub, Nat.reduceLeDiff, reduceCtorEq, hc, hw, hx, hs0, hc0, hsl, hcl, hfree, hf, hix, hd1, setR, List.set_set, s1, c1, s2, c2, s3, c3] <;> (try simp only [decide_eq_true_eq, decide_eq_false_iff_not, Bool.not_true] at h))
    | (with_reducible refine chk_in (by kernel_rfl) ?_)
    | (with_reducible refine And.intro (And.intro (by omega) (by omega)) ?_)
    | (with_reducible refine And.intro (by omega) ?_)
    | (refine eeKey_call rfl e (by simp only [go_sem, reduceIte, Nat.reduceLT, Nat.reduceEqDiff, Nat.reduceAdd, Nat.reduceMul, Nat.reduceSub, Nat.reduceLeDiff, reduceCtorEq, hfree]) ?_)
    | (refine eeIx_call rfl l (grp (·.1) l i e.1) e rfl (.inl rfl) rfl (grp_bd hi hl) (by simp only [go_sem, reduceIte, Nat.reduceLT, Nat.reduceEqDiff, Nat.reduceAdd, Nat.reduceMul, Nat.reduceSub, Nat.reduceLeDiff, reduceCtorEq, hfree]) ?_)
    | (rw [get_in]; rotate_left; omega; simp only [go_sem, reduceIte, Nat.reduceLT, Nat.reduceEqDiff, Nat.reduceAdd, Nat.reduceMul, Nat.reduceSub, Nat.reduceLeDiff, reduceCtorEq, hc, hw, hx, hs0, hc0, hsl, hcl, hfree, hf, hix, hd1, setR, List.set_set, s1, c1, s2, c2, s3, c3])
    | fail)
        all_goals refine ⟨(i + 1, S.set i e.1, C.set i i, Ks), weak_join (N := 1000) (b := 348) (p := p) (ml' := [(102, .rmap (kvE stD 1000 Ks)), (100, .row 3 (stR (S.set i e.1)) true), (101, .row 1 (intL (C.set i i)) true), (103, .cells [.sl 8 (eeR l)]), (104, .cells [.fn 17 [] []])]) [] (by repeat' (first | trivial | constructor | rfl)) ⟨⟨kv_old (by rfl) hp, rfl⟩, ⟨rfl, rfl⟩, ⟨rfl, rfl⟩, ⟨rfl, rfl⟩, ⟨rfl, rfl⟩, trivial⟩
          (join_old hx hp hI.k (fun q s hqp hq => ?_) (by rw [evG_add hx hcn]; rfl)) (by decide) (by decide) (by decide) (by rfl) (by rfl) ?_, hI.next hx (by rw [hcn]) (hI.k.old hx hm), by simp only; omega⟩
        · simp only [memOf]
          repeat rw [if_neg (by omega)]
          rw [memOf_no, if_neg (by omega), famE_get, if_pos (by omega), Nat.add_sub_cancel_left, hq]; rfl
        · intro j hj
          have : j = 0 ∨ j = 1 ∨ j = 2 := by omega
          rcases this with rfl | rfl | rfl <;> simp only [go_sem, reduceIte, Nat.reduceLT, Nat.reduceEqDiff, Nat.reduceAdd, Nat.reduceMul, Nat.reduceSub, Nat.reduceLeDiff, reduceCtorEq, hfree]
      · obtain ⟨k, hix, hgk⟩ := ix_old (st := (·.1)) hx hcn
        have hd1 : decide ((k : Int) < 0) = false := by simp
        have hk : k < (grp (·.1) l i e.1).length := by
          rcases Nat.lt_or_ge k (grp (·.1) l i e.1).length with h | h
          · exact h
          · rw [List.getElem?_eq_none h] at hgk; cases hgk
        have hgk' := evG_get hgk
        repeat' (first
    | (with_reducible refine aw_seq ?_)
    | (with_reducible refine kont_in ?_; simp only [go_sem, reduceIte, Nat.reduceLT, Nat.reduceEqDiff, Nat.reduceAdd, Nat.reduceMul, Nat.reduceSub, Nat.reduceLeDiff, reduceCtorEq, hc, hw, hx, hs0, hc0, hsl, hcl, hfree, hf, hix, hd1, hgk', hset, setR, List.set_set, s1, c1, s2, c2, s3, c3])
    | (with_reducible refine dKont_in ?_; simp only [go_sem, reduceIte, Nat.reduceLT, Nat.reduceEqDiff, Nat.reduceAdd, Nat.reduceMul, Nat.reduceSub, Nat.reduceLeDiff, reduceCtorEq, hc, hw, hx, hs0, hc0, hsl, hcl, hfree, hf, hix, hd1, hgk', hset, setR, List.set_set, s1, c1, s2, c2, s3, c3])
    | (with_reducible refine aw_drw (by kernel_rfl) kOk_nil kDet_nil ?_; simp only [go_sem, reduceIte, Nat.reduceLT, Nat.reduceEqDiff, Nat.reduceAdd, Nat.reduceMul, Nat.reduceSub, Nat.reduceLeDiff, reduceCtorEq, hc, hw, hx, hs0, hc0, hsl, hcl, hfree, hf, hix, hd1, hgk', hset, setR, List.set_set, s1, c1, s2, c2, s3, c3])
    | (with_reducible refine aw_reg hK ?_; simp only [go_sem, reduceIte, Nat.reduceLT, Nat.reduceEqDiff, Nat.reduceAdd, Nat.reduceMul, Nat.reduceSub, Nat.reduceLeDiff, reduceCtorEq, hc, hw, hx, hs0, hc0, hsl, hcl, hfree, hf, hix, hd1, hgk', hset, setR, List.set_set, s1, c1, s2, c2, s3, c3])
    | (with_reducible refine aw_if ?_; simp only [go_sem, reduceIte, Nat.reduceLT, Nat.reduceEqDiff, Nat.reduceAdd, Nat.reduceMul, Nat.reduceSub, Nat.reduceLeDiff, reduceCtorEq, hc, hw, hx, hs0, hc0, hsl, hcl, hfree, hf, hix, hd1, hgk', hset, setR, List.set_set, s1, c1, s2, c2, s3, c3])
    | (with_reducible refine aw_block ?_)
    | (with_reducible refine aw_ret ?_; (try simp only [thenQ, blockQ]); refine aw_ret' ?_; simp only [go_sem, reduceIte, Nat.reduceLT, Nat.reduceEqDiff, Nat.reduceAdd, Nat.reduceMul, Nat.reduceSub, Nat.reduceLeDiff, reduceCtorEq, hc, hw, hx, hs0, hc0, hsl, hcl, hfree, hf, hix, hd1, hgk', hset, setR, List.set_set, s1, c1, s2, c2, s3, c3])
    | (with_reducible refine aw_exit ?_; simp only [thenQ, blockQ, reduceIte, Nat.reduceEqDiff])
    | (with_reducible refine aw_skip ?_; simp only [thenQ, blockQ])
    | (with_reducible refine gate_intro (fun h => ?_) (fun h => ?_) <;> simp only [h, go_sem, reduceIte, Nat.reduceLT, Nat.reduceEqDiff, Nat.reduceAdd, Nat.reduceMul, Nat.reduceSub, Nat.reduceLeDiff, reduceCtorEq, hc, hw, hx, hs0, hc0, hsl, hcl, hfree, hf, hix, hd1, hgk', hset, setR, List.set_set, s1, c1, s2, c2, s3, c3] <;> (try simp only [decide_eq_true_eq, decide_eq_false_iff_not, Bool.not_true] at h))
    | (with_reducible refine chk_in (by kernel_rfl) ?_)
    | (with_reducible refine And.intro (And.intro (by omega) (by omega)) ?_)
    | (with_reducible refine And.intro (by omega) ?_)
    | (refine eeKey_call rfl e (by simp only [go_sem, reduceIte, Nat.reduceLT, Nat.reduceEqDiff, Nat.reduceAdd, Nat.reduceMul, Nat.reduceSub, Nat.reduceLeDiff, reduceCtorEq, hfree]) ?_)
    | (refine eeIx_call rfl l (grp (·.1) l i e.1) e rfl (.inl rfl) rfl (grp_bd hi hl) (by simp only [go_sem, reduceIte, Nat.reduceLT, Nat.reduceEqDiff, Nat.reduceAdd, Nat.reduceMul, Nat.reduceSub, Nat.reduceLeDiff, reduceCtorEq, hfree]) ?_)
    | (rw [get_in]; rotate_left; omega; simp only [go_sem, reduceIte, Nat.reduceLT, Nat.reduceEqDiff, Nat.reduceAdd, Nat.reduceMul, Nat.reduceSub, Nat.reduceLeDiff, reduceCtorEq, hc, hw, hx, hs0, hc0, hsl, hcl, hfree, hf, hix, hd1, hgk', hset, setR, List.set_set, s1, c1, s2, c2, s3, c3])
    | fail)
        all_goals refine ⟨(i + 1, S.set i e.1, C.set i (clsN l i), Ks), weak_join (N := 1000) (b := 500) (p := p) (ml' := [(102, .rmap (kvE stD 1000 Ks)), (100, .row 3 (stR (S.set i e.1)) true), (101, .row 1 (intL (C.set i (clsN l i))) true), (103, .cells [.sl 8 (eeR l)]), (104, .cells [.fn 17 [] []])]) [] (by repeat' (first | trivial | constructor | rfl)) ⟨⟨kv_old (by rfl) hp, rfl⟩, ⟨rfl, rfl⟩, ⟨rfl, rfl⟩, ⟨rfl, rfl⟩, ⟨rfl, rfl⟩, trivial⟩
          (join_old hx hp hI.k (fun q s hqp hq => ?_) (by rw [evG_same (fun h => hcn h.1)]; rfl)) (by decide) (by decide) (by decide) (by rfl) (by rfl) ?_, hI.next hx rfl (hI.k.old hx hm), by simp only; omega⟩
        · simp only [memOf]
          repeat rw [if_neg (by omega)]
          rw [memOf_no, if_neg (by omega), famE_get, if_pos (by omega), Nat.add_sub_cancel_left, hq]; rfl
        · intro j hj
          have : j = 0 ∨ j = 1 ∨ j = 2 := by omega
          rcases this with rfl | rfl | rfl <;> simp only [go_sem, reduceIte, Nat.reduceLT, Nat.reduceEqDiff, Nat.reduceAdd, Nat.reduceMul, Nat.reduceSub, Nat.reduceLeDiff, reduceCtorEq, hfree]
end Go.Proofs.R1

/- entry.Canonical and the reference's. -/
set_option linter.unusedVariables false
set_option linter.unusedSimpArgs false
set_option maxRecDepth 8000
set_option maxHeartbeats 2000000
namespace Go.Proofs.R1
open Go Go.Abs

/-- What counts, as places; and as events. -/
def evF (l : List EE) : List Nat := canF (l.map (·.1)) (clsI l)
def evL (l : List EE) : List EE := (evF l).map (at0 l)
def evR (l : List EE) : List EE × Int := if 300 < (evF l).length then ([], 3) else (evL l, 0)
theorem evR_can (l : List EE) : canR (l.map (·.1)) (clsI l) = if 300 < (evF l).length then ([], 3) else (natI (evF l), 0) := by
  unfold canR evF
  rw [if_neg (by simp [clsI])]
theorem evF_lt {l : List EE} {j : Nat} (h : j ∈ evF l) : j < l.length := by
  unfold evF at h
  have h1 := (canF_is (l.map (·.1)) (clsI l)).2 j
  have := h1.1 h
  simpa using this.1
theorem evF_len (l : List EE) : (evF l).length ≤ l.length := by
  have := canF_len (l.map (·.1)) (clsI l)
  simpa [evF] using this
@[go_sem] theorem eeD_take3 (e : EE) : (eeD e).take 3 = stD e.1 := rfl
@[go_sem] theorem stD_cells (s : St) : (stD s).all isCell = true := rfl
abbrev eecC : Con where
  α := List EE
  kinds := [false]
  args := fun l => [.d (.sl 8 (eeR l))]
  pre := fun l => l.length ≤ 1000000
  post := fun l r => r = ⟨[.own 8 (eeR (evR l).1), .d (i64 (evR l).2)], []⟩
  clean := true
theorem eeR_plain (l : List EE) (e : List D) (h : e ∈ eeR l) : e.all plainC = true := by
  simp only [eeR, List.mem_map] at h
  obtain ⟨x, -, rfl⟩ := h; rfl
theorem evc_call {K : Kt} (hk : K 38 = some evcC) {np fid : Nat} {M : Mem} {nx : D → Mem → Prop} (l : List EE) {x : D} (hx : fz M true 4 x = some (.sl 8 (eeR l))) (hp : l.length ≤ 1000000) (hf : ∀ j, M (fid + j) = none)
    (hn : nx (.tup [.row fid, i64 (canR (l.map (·.1)) (clsI l)).2]) (upd M fid (some (.row 1 (intL (canR (l.map (·.1)) (clsI l)).1) true)))) : semCall K np 38 [x, .fn 39 [] [], .fn 17 [] []] M fid nx :=
  call_clR hk rfl rfl l (by simp only [argsV, mapO, hx]; rfl) hp hf (by rintro r rfl; exact hn)
theorem take_at {α : Type} [Inhabited α] {β : Type} (f : α → β) {o : List α} {i : Nat} {x : α} (h : o[i]? = some x) : (o.take (i + 1)).map f = (o.take i).map f ++ [f x] := by
  rw [List.take_add_one, h]; simp
theorem eeCan_ok : CallOk Try.prog 14 eecC := by
  refine ok_of_body_own 32 1 Try.func14 rfl (by decide) Try.ntmps14 (by intro a h; exact ⟨rfl, rfl⟩) (by decide) (by rintro _ a r _ rfl; simpa [plainRD, plainD, plainC] using eeR_plain _) ?_
  rintro l hl
  simp only [eecC] at hl ⊢
  simp only [initE, initMm, List.length_cons, List.length_nil, Nat.reduceAdd]
  have s1 : evcC.srt = none := rfl
  have c1 : evcC.clean = true := rfl
  have hK : KOk Try.prog (kOf [(38, evcC)]) := kOk_cons evc_ok kOk_nil
  have hr := evR_can l
  by_cases h3 : 300 < (evF l).length
  case pos =>
    rw [if_pos h3] at hr
    have hb : ((3 : Int) != 0) = true := rfl
    repeat' (first
    | (with_reducible refine aw_seq ?_)
    | (with_reducible refine kont_in ?_; simp only [go_sem, reduceIte, Nat.reduceLT, Nat.reduceEqDiff, Nat.reduceAdd, Nat.reduceMul, Nat.reduceSub, Nat.reduceLeDiff, reduceCtorEq, hr, hb, s1, c1])
    | (with_reducible refine dKont_in ?_; simp only [go_sem, reduceIte, Nat.reduceLT, Nat.reduceEqDiff, Nat.reduceAdd, Nat.reduceMul, Nat.reduceSub, Nat.reduceLeDiff, reduceCtorEq, hr, hb, s1, c1])
    | (with_reducible refine aw_drw (by kernel_rfl) hK kDet_nil ?_; simp only [go_sem, reduceIte, Nat.reduceLT, Nat.reduceEqDiff, Nat.reduceAdd, Nat.reduceMul, Nat.reduceSub, Nat.reduceLeDiff, reduceCtorEq, hr, hb, s1, c1])
    | (with_reducible refine aw_reg hK ?_; simp only [go_sem, reduceIte, Nat.reduceLT, Nat.reduceEqDiff, Nat.reduceAdd, Nat.reduceMul, Nat.reduceSub, Nat.reduceLeDiff, reduceCtorEq, hr, hb, s1, c1])
    | (with_reducible refine aw_if ?_; simp only [go_sem, reduceIte, Nat.reduceLT, Nat.reduceEqDiff, Nat.reduceAdd, Nat.reduceMul, Nat.reduceSub, Nat.reduceLeDiff, reduceCtorEq, hr, hb, s1, c1])
    | (with_reducible refine aw_block ?_)
    | (with_reducible refine aw_ret ?_; (try simp only [thenQ, blockQ]); refine aw_ret' ?_; simp only [go_sem, reduceIte, Nat.reduceLT, Nat.reduceEqDiff, Nat.reduceAdd, Nat.reduceMul, Nat.reduceSub, Nat.reduceLeDiff, reduceCtorEq, hr, hb, s1, c1])
    | (with_reducible refine aw_exit ?_; simp only [thenQ, blockQ, reduceIte, Nat.reduceEqDiff])
    | (with_reducible refine aw_skip ?_; simp only [thenQ, blockQ])
    | (with_reducible refine gate_intro (fun h => ?_) (fun h => ?_) <;> simp only [h, go_sem, reduceIte, Nat.reduceLT, Nat.reduceEqDiff, Nat.reduceAdd, Nat.reduceMul, Nat.reduceSub, Nat.reduceLeDiff, reduceCtorEq, hr, hb, s1, c1] <;> (try simp only [decide_eq_true_eq, decide_eq_false_iff_not, Bool.not_true] at h))
    | (with_reducible refine chk_in (by kernel_rfl) ?_)
    | (with_reducible refine And.intro (And.intro (by omega) (by omega)) ?_)
    | (with_reducible refine And.intro (by omega) ?_)
    | (refine evc_call rfl l rfl hl (memOf_free rfl) ?_)
    | (rw [get_in]; rotate_left; omega; simp only [go_sem, reduceIte, Nat.reduceLT, Nat.reduceEqDiff, Nat.reduceAdd, Nat.reduceMul, Nat.reduceSub, Nat.reduceLeDiff, reduceCtorEq, hr, hb, s1, c1])
    | fail)
    refine ⟨_, rfl, ?_, rfl⟩
    simp only [evR, if_pos h3]
    exact .z _ _ _ (.refl _)
  rw [if_neg h3] at hr
  have hb : ((0 : Int) != 0) = false := rfl
  have hol := evF_len l
  have hev : evR l = (evL l, 0) := by unfold evR; rw [if_neg h3]
  have hlt : ∀ j, j ∈ evF l → j < l.length := fun j hj => evF_lt hj
  have hL : evL l = (evF l).map (at0 l) := rfl
  rw [hL] at hev
  generalize ho : evF l = o at *
  repeat' (first
    | (with_reducible refine aw_seq ?_)
    | (with_reducible refine kont_in ?_; simp only [go_sem, reduceIte, Nat.reduceLT, Nat.reduceEqDiff, Nat.reduceAdd, Nat.reduceMul, Nat.reduceSub, Nat.reduceLeDiff, reduceCtorEq, hr, hb, s1, c1])
    | (with_reducible refine dKont_in ?_; simp only [go_sem, reduceIte, Nat.reduceLT, Nat.reduceEqDiff, Nat.reduceAdd, Nat.reduceMul, Nat.reduceSub, Nat.reduceLeDiff, reduceCtorEq, hr, hb, s1, c1])
    | (with_reducible refine aw_drw (by kernel_rfl) hK kDet_nil ?_; simp only [go_sem, reduceIte, Nat.reduceLT, Nat.reduceEqDiff, Nat.reduceAdd, Nat.reduceMul, Nat.reduceSub, Nat.reduceLeDiff, reduceCtorEq, hr, hb, s1, c1])
    | (with_reducible refine aw_reg hK ?_; simp only [go_sem, reduceIte, Nat.reduceLT, Nat.reduceEqDiff, Nat.reduceAdd, Nat.reduceMul, Nat.reduceSub, Nat.reduceLeDiff, reduceCtorEq, hr, hb, s1, c1])
    | (with_reducible refine aw_if ?_; simp only [go_sem, reduceIte, Nat.reduceLT, Nat.reduceEqDiff, Nat.reduceAdd, Nat.reduceMul, Nat.reduceSub, Nat.reduceLeDiff, reduceCtorEq, hr, hb, s1, c1])
    | (with_reducible refine aw_block ?_)
    | (with_reducible refine aw_ret ?_; (try simp only [thenQ, blockQ]); refine aw_ret' ?_; simp only [go_sem, reduceIte, Nat.reduceLT, Nat.reduceEqDiff, Nat.reduceAdd, Nat.reduceMul, Nat.reduceSub, Nat.reduceLeDiff, reduceCtorEq, hr, hb, s1, c1])
    | (with_reducible refine aw_exit ?_; simp only [thenQ, blockQ, reduceIte, Nat.reduceEqDiff])
    | (with_reducible refine aw_skip ?_; simp only [thenQ, blockQ])
    | (with_reducible refine gate_intro (fun h => ?_) (fun h => ?_) <;> simp only [h, go_sem, reduceIte, Nat.reduceLT, Nat.reduceEqDiff, Nat.reduceAdd, Nat.reduceMul, Nat.reduceSub, Nat.reduceLeDiff, reduceCtorEq, hr, hb, s1, c1] <;> (try simp only [decide_eq_true_eq, decide_eq_false_iff_not, Bool.not_true] at h))
    | (with_reducible refine chk_in (by kernel_rfl) ?_)
    | (with_reducible refine And.intro (And.intro (by omega) (by omega)) ?_)
    | (with_reducible refine And.intro (by omega) ?_)
    | (refine evc_call rfl l rfl hl (memOf_free rfl) ?_)
    | (rw [get_in]; rotate_left; omega; simp only [go_sem, reduceIte, Nat.reduceLT, Nat.reduceEqDiff, Nat.reduceAdd, Nat.reduceMul, Nat.reduceSub, Nat.reduceLeDiff, reduceCtorEq, hr, hb, s1, c1])
    | fail)
  refine aw_nil 6 100 8 rfl rfl ?_
  refine aw_rounds (α := Nat) (fun i => ⟨envOf [(19, i64 i), (18, i64 o.length), (17, .row 101), (6, .row 100), (0, .sl 8 (eeR l))], memOf [(101, .row 1 (intL (natI o)) true), (100, .row 8 (eeR ((o.take i).map (at0 l))) true)], 200⟩)
    (fun i => i ≤ o.length) (fun i => o.length - i) 0 (Nat.zero_le _) (by simp only [List.take_zero, List.map_nil]; exact weak_in [(101, 13), (100, 100)] (by repeat' (first | trivial | constructor | rfl)) (by repeat' (first | trivial | constructor | rfl)) (by rfl) (by rfl) (by rfl)) ?_
  intro i hi
  cases hx : o[i]? with
  | none =>
    have hge : o.length ≤ i := by simpa using hx
    have hc : decide ((i : Int) < (o.length : Int)) = false := by simp <;> omega
    repeat' (first
    | (with_reducible refine aw_seq ?_)
    | (with_reducible refine kont_in ?_; simp only [go_sem, reduceIte, Nat.reduceLT, Nat.reduceEqDiff, Nat.reduceAdd, Nat.reduceMul, Nat.reduceSub, Nat.reduceLeDiff, reduceCtorEq, hc, s1, c1])
    | (with_reducible refine dKont_in ?_; simp only [go_sem, reduceIte, Nat.reduceLT, Nat.reduceEqDiff, Nat.reduceAdd, Nat.reduceMul, Nat.reduceSub, Nat.reduceLeDiff, reduceCtorEq, hc, s1, c1])
    | (with_reducible refine aw_drw (by kernel_rfl) hK kDet_nil ?_; simp only [go_sem, reduceIte, Nat.reduceLT, Nat.reduceEqDiff, Nat.reduceAdd, Nat.reduceMul, Nat.reduceSub, Nat.reduceLeDiff, reduceCtorEq, hc, s1, c1])
    | (with_reducible refine aw_reg hK ?_; simp only [go_sem, reduceIte, Nat.reduceLT, Nat.reduceEqDiff, Nat.reduceAdd, Nat.reduceMul, Nat.reduceSub, Nat.reduceLeDiff, reduceCtorEq, hc, s1, c1])
    | (with_reducible refine aw_if ?_; simp only [go_sem, reduceIte, Nat.reduceLT, Nat.reduceEqDiff, Nat.reduceAdd, Nat.reduceMul, Nat.reduceSub, Nat.reduceLeDiff, reduceCtorEq, hc, s1, c1])
    | (with_reducible refine aw_block ?_)
    | (with_reducible refine aw_ret ?_; (try simp only [thenQ, blockQ]); refine aw_ret' ?_; simp only [go_sem, reduceIte, Nat.reduceLT, Nat.reduceEqDiff, Nat.reduceAdd, Nat.reduceMul, Nat.reduceSub, Nat.reduceLeDiff, reduceCtorEq, hc, s1, c1])
    | (with_reducible refine aw_exit ?_; simp only [thenQ, blockQ, reduceIte, Nat.reduceEqDiff])
    | (with_reducible refine aw_skip ?_; simp only [thenQ, blockQ])
    | (with_reducible refine gate_intro (fun h => ?_) (fun h => ?_) <;> simp only [h, go_sem, reduceIte, Nat.reduceLT, Nat.reduceEqDiff, Nat.reduceAdd, Nat.reduceMul, Nat.reduceSub, Nat.reduceLeDiff, reduceCtorEq, hc, s1, c1] <;> (try simp only [decide_eq_true_eq, decide_eq_false_iff_not, Bool.not_true] at h))
    | (with_reducible refine chk_in (by kernel_rfl) ?_)
    | (with_reducible refine And.intro (And.intro (by omega) (by omega)) ?_)
    | (with_reducible refine And.intro (by omega) ?_)
    | (rw [get_in]; rotate_left; omega; simp only [go_sem, reduceIte, Nat.reduceLT, Nat.reduceEqDiff, Nat.reduceAdd, Nat.reduceMul, Nat.reduceSub, Nat.reduceLeDiff, reduceCtorEq, hc, s1, c1])
    | fail)
    refine ⟨_, rfl, ?_, rfl⟩
    rw [hev, List.take_of_length_le hge]; exact .refl _
  | some j =>
    have hlo : i < o.length := by
      rcases Nat.lt_or_ge i o.length with h | h
      · exact h
      · rw [List.getElem?_eq_none h] at hx; cases hx
    have hc : decide ((i : Int) < (o.length : Int)) = true := by simp <;> omega
    have hw := wrS (i := i) (by omega)
    have hj := hlt j (List.mem_of_getElem? hx)
    have hlj := get_in hj
    repeat' (first
    | (with_reducible refine aw_seq ?_)
    | (with_reducible refine kont_in ?_; simp only [go_sem, reduceIte, Nat.reduceLT, Nat.reduceEqDiff, Nat.reduceAdd, Nat.reduceMul, Nat.reduceSub, Nat.reduceLeDiff, reduceCtorEq, hc, hw, hx, hlj, s1, c1])
    | (with_reducible refine dKont_in ?_; simp only [go_sem, reduceIte, Nat.reduceLT, Nat.reduceEqDiff, Nat.reduceAdd, Nat.reduceMul, Nat.reduceSub, Nat.reduceLeDiff, reduceCtorEq, hc, hw, hx, hlj, s1, c1])
    | (with_reducible refine aw_drw (by kernel_rfl) hK kDet_nil ?_; simp only [go_sem, reduceIte, Nat.reduceLT, Nat.reduceEqDiff, Nat.reduceAdd, Nat.reduceMul, Nat.reduceSub, Nat.reduceLeDiff, reduceCtorEq, hc, hw, hx, hlj, s1, c1])
    | (with_reducible refine aw_reg hK ?_; simp only [go_sem, reduceIte, Nat.reduceLT, Nat.reduceEqDiff, Nat.reduceAdd, Nat.reduceMul, Nat.reduceSub, Nat.reduceLeDiff, reduceCtorEq, hc, hw, hx, hlj, s1, c1])
    | (with_reducible refine aw_if ?_; simp only [go_sem, reduceIte, Nat.reduceLT, Nat.reduceEqDiff, Nat.reduceAdd, Nat.reduceMul, Nat.reduceSub, Nat.reduceLeDiff, reduceCtorEq, hc, hw, hx, hlj, s1, c1])
    | (with_reducible refine aw_block ?_)
    | (with_reducible refine aw_ret ?_; (try simp only [thenQ, blockQ]); refine aw_ret' ?_; simp only [go_sem, reduceIte, Nat.reduceLT, Nat.reduceEqDiff, Nat.reduceAdd, Nat.reduceMul, Nat.reduceSub, Nat.reduceLeDiff, reduceCtorEq, hc, hw, hx, hlj, s1, c1])
    | (with_reducible refine aw_exit ?_; simp only [thenQ, blockQ, reduceIte, Nat.reduceEqDiff])
    | (with_reducible refine aw_skip ?_; simp only [thenQ, blockQ])
    | (with_reducible refine gate_intro (fun h => ?_) (fun h => ?_) <;> simp only [h, go_sem, reduceIte, Nat.reduceLT, Nat.reduceEqDiff, Nat.reduceAdd, Nat.reduceMul, Nat.reduceSub, Nat.reduceLeDiff, reduceCtorEq, hc, hw, hx, hlj, s1, c1] <;> (try simp only [decide_eq_true_eq, decide_eq_false_iff_not, Bool.not_true] at h))
    | (with_reducible refine chk_in (by kernel_rfl) ?_)
    | (with_reducible refine And.intro (And.intro (by omega) (by omega)) ?_)
    | (with_reducible refine And.intro (by omega) ?_)
    | (rw [get_in]; rotate_left; omega; simp only [go_sem, reduceIte, Nat.reduceLT, Nat.reduceEqDiff, Nat.reduceAdd, Nat.reduceMul, Nat.reduceSub, Nat.reduceLeDiff, reduceCtorEq, hc, hw, hx, hlj, s1, c1])
    | fail)
    all_goals refine ⟨i + 1, (by rw [take_at (at0 l) hx, ← eeR_app1]; exact weak_in [(101, 101), (100, _)] (by repeat' (first | trivial | constructor | rfl)) (by repeat' (first | trivial | constructor | rfl)) (by rfl) (by rfl) (by rfl)), by omega, by omega⟩

/-- The classes as the reference finds them. -/
theorem eeRef_ok : CallOk Try.prog 15 eecC := by
  refine ok_of_body_own 74 1 Try.func15 rfl (by decide) Try.ntmps15 (by intro a h; exact ⟨rfl, rfl⟩) (by decide) (by rintro _ a r _ rfl; simpa [plainRD, plainD, plainC] using eeR_plain _) ?_
  rintro l hl
  simp only [eecC] at hl ⊢
  simp only [initE, initMm, List.length_cons, List.length_nil, Nat.reduceAdd]
  have s1 : canC.srt = none := rfl
  have c1 : canC.clean = true := rfl
  have hK : KOk Try.prog (kOf [(40, canC)]) := kOk_cons canR_ok kOk_nil
  repeat' (first
    | (with_reducible refine aw_seq ?_)
    | (with_reducible refine kont_in ?_; simp only [go_sem, reduceIte, Nat.reduceLT, Nat.reduceEqDiff, Nat.reduceAdd, Nat.reduceMul, Nat.reduceSub, Nat.reduceLeDiff, reduceCtorEq, s1, c1])
    | (with_reducible refine dKont_in ?_; simp only [go_sem, reduceIte, Nat.reduceLT, Nat.reduceEqDiff, Nat.reduceAdd, Nat.reduceMul, Nat.reduceSub, Nat.reduceLeDiff, reduceCtorEq, s1, c1])
    | (with_reducible refine aw_drw (by kernel_rfl) kOk_nil kDet_nil ?_; simp only [go_sem, reduceIte, Nat.reduceLT, Nat.reduceEqDiff, Nat.reduceAdd, Nat.reduceMul, Nat.reduceSub, Nat.reduceLeDiff, reduceCtorEq, s1, c1])
    | (with_reducible refine aw_reg hK ?_; simp only [go_sem, reduceIte, Nat.reduceLT, Nat.reduceEqDiff, Nat.reduceAdd, Nat.reduceMul, Nat.reduceSub, Nat.reduceLeDiff, reduceCtorEq, s1, c1])
    | (with_reducible refine aw_if ?_; simp only [go_sem, reduceIte, Nat.reduceLT, Nat.reduceEqDiff, Nat.reduceAdd, Nat.reduceMul, Nat.reduceSub, Nat.reduceLeDiff, reduceCtorEq, s1, c1])
    | (with_reducible refine aw_block ?_)
    | (with_reducible refine aw_ret ?_; (try simp only [thenQ, blockQ]); refine aw_ret' ?_; simp only [go_sem, reduceIte, Nat.reduceLT, Nat.reduceEqDiff, Nat.reduceAdd, Nat.reduceMul, Nat.reduceSub, Nat.reduceLeDiff, reduceCtorEq, s1, c1])
    | (with_reducible refine aw_exit ?_; simp only [thenQ, blockQ, reduceIte, Nat.reduceEqDiff])
    | (with_reducible refine aw_skip ?_; simp only [thenQ, blockQ])
    | (with_reducible refine gate_intro (fun h => ?_) (fun h => ?_) <;> simp only [h, go_sem, reduceIte, Nat.reduceLT, Nat.reduceEqDiff, Nat.reduceAdd, Nat.reduceMul, Nat.reduceSub, Nat.reduceLeDiff, reduceCtorEq, s1, c1] <;> (try simp only [decide_eq_true_eq, decide_eq_false_iff_not, Bool.not_true] at h))
    | (with_reducible refine chk_in (by kernel_rfl) ?_)
    | (with_reducible refine And.intro (And.intro (by omega) (by omega)) ?_)
    | (with_reducible refine And.intro (by omega) ?_)
    | (rw [get_in]; rotate_left; omega; simp only [go_sem, reduceIte, Nat.reduceLT, Nat.reduceEqDiff, Nat.reduceAdd, Nat.reduceMul, Nat.reduceSub, Nat.reduceLeDiff, reduceCtorEq, s1, c1])
    | fail)
  refine aw_nil 4 100 3 rfl rfl ?_
  refine aw_nil 5 101 1 rfl rfl ?_
  refine aw_rounds (α := Nat) (fun i => ⟨envOf [(6, i64 i), (4, .row 100), (5, .row 101), (0, .sl 8 (eeR l))], memOf [(100, .row 3 (stR ((l.take i).map (·.1))) true), (101, .row 1 (intL ((List.range i).map fun j => ((clsN l j : Nat) : Int))) true)], 200⟩)
    (fun i => i ≤ l.length) (fun i => l.length - i) 0 (Nat.zero_le _) (by exact weak_in [(101, _), (100, _)] (by repeat' (first | trivial | constructor | rfl)) (by repeat' (first | trivial | constructor | rfl)) (by rfl) (by rfl) (by rfl)) ?_
  intro i hi
  cases hx : l[i]? with
  | some e =>
    have hlo : i < l.length := by
      rcases Nat.lt_or_ge i l.length with h | h
      · exact h
      · rw [List.getElem?_eq_none h] at hx; cases hx
    have hc : decide ((i : Int) < (l.length : Int)) = true := by simp <;> omega
    have hw := wrS (i := i) (by omega)
    have hw1 : IntKind.i64.wrap ((i : Int) - 1) = (i : Int) - 1 := wr64 (by omega) (by omega)
    repeat' (first
    | (with_reducible refine aw_seq ?_)
    | (with_reducible refine kont_in ?_; simp only [go_sem, reduceIte, Nat.reduceLT, Nat.reduceEqDiff, Nat.reduceAdd, Nat.reduceMul, Nat.reduceSub, Nat.reduceLeDiff, reduceCtorEq, hc, hw, hw1, hx, s1, c1])
    | (with_reducible refine dKont_in ?_; simp only [go_sem, reduceIte, Nat.reduceLT, Nat.reduceEqDiff, Nat.reduceAdd, Nat.reduceMul, Nat.reduceSub, Nat.reduceLeDiff, reduceCtorEq, hc, hw, hw1, hx, s1, c1])
    | (with_reducible refine aw_drw (by kernel_rfl) kOk_nil kDet_nil ?_; simp only [go_sem, reduceIte, Nat.reduceLT, Nat.reduceEqDiff, Nat.reduceAdd, Nat.reduceMul, Nat.reduceSub, Nat.reduceLeDiff, reduceCtorEq, hc, hw, hw1, hx, s1, c1])
    | (with_reducible refine aw_reg hK ?_; simp only [go_sem, reduceIte, Nat.reduceLT, Nat.reduceEqDiff, Nat.reduceAdd, Nat.reduceMul, Nat.reduceSub, Nat.reduceLeDiff, reduceCtorEq, hc, hw, hw1, hx, s1, c1])
    | (with_reducible refine aw_if ?_; simp only [go_sem, reduceIte, Nat.reduceLT, Nat.reduceEqDiff, Nat.reduceAdd, Nat.reduceMul, Nat.reduceSub, Nat.reduceLeDiff, reduceCtorEq, hc, hw, hw1, hx, s1, c1])
    | (with_reducible refine aw_block ?_)
    | (with_reducible refine aw_ret ?_; (try simp only [thenQ, blockQ]); refine aw_ret' ?_; simp only [go_sem, reduceIte, Nat.reduceLT, Nat.reduceEqDiff, Nat.reduceAdd, Nat.reduceMul, Nat.reduceSub, Nat.reduceLeDiff, reduceCtorEq, hc, hw, hw1, hx, s1, c1])
    | (with_reducible refine aw_exit ?_; simp only [thenQ, blockQ, reduceIte, Nat.reduceEqDiff])
    | (with_reducible refine aw_skip ?_; simp only [thenQ, blockQ])
    | (with_reducible refine gate_intro (fun h => ?_) (fun h => ?_) <;> simp only [h, go_sem, reduceIte, Nat.reduceLT, Nat.reduceEqDiff, Nat.reduceAdd, Nat.reduceMul, Nat.reduceSub, Nat.reduceLeDiff, reduceCtorEq, hc, hw, hw1, hx, s1, c1] <;> (try simp only [decide_eq_true_eq, decide_eq_false_iff_not, Bool.not_true] at h))
    | (with_reducible refine chk_in (by kernel_rfl) ?_)
    | (with_reducible refine And.intro (And.intro (by omega) (by omega)) ?_)
    | (with_reducible refine And.intro (by omega) ?_)
    | (rw [get_in]; rotate_left; omega; simp only [go_sem, reduceIte, Nat.reduceLT, Nat.reduceEqDiff, Nat.reduceAdd, Nat.reduceMul, Nat.reduceSub, Nat.reduceLeDiff, reduceCtorEq, hc, hw, hw1, hx, s1, c1])
    | fail)
    refine aw_rounds (α := Nat × Nat) (fun x => ⟨envOf [(8, i64 ((x.1 : Int) - 1)), (7, i64 x.2), (6, i64 i), (4, .row 100), (5, .row 101), (0, .sl 8 (eeR l))], memOf [(100, .row 3 (stR ((l.take i).map (·.1))) true), (101, .row 1 (intL ((List.range i).map fun j => ((clsN l j : Nat) : Int))) true)], 200⟩)
      (fun x => x.1 ≤ i ∧ x.2 ≤ i ∧ l[x.2]? = l[i]? ∧ ∀ k, x.1 ≤ k → k < x.2 → l[k]? ≠ l[i]?) (fun x => x.1) (i, i) ⟨Nat.le_refl _, Nat.le_refl _, rfl, fun k h1 h2 => by omega⟩ (by exact weak_in [(101, 101), (100, 100)] (by repeat' (first | trivial | constructor | rfl)) (by repeat' (first | trivial | constructor | rfl)) (by rfl) (by rfl) (by rfl)) ?_
    rintro ⟨m, q⟩ ⟨hm, hq, hqe, hqm⟩
    simp only at hm hq hqe hqm ⊢
    cases m with
    | zero =>
      have hc0 : decide ((((0 : Nat) : Int) - 1) ≥ 0) = false := by simp
      have hcls : clsN l i = q := clsN_is hlo hqe fun j hj => hqm j (Nat.zero_le _) hj
      repeat' (first
    | (with_reducible refine aw_seq ?_)
    | (with_reducible refine kont_in ?_; simp only [go_sem, reduceIte, Nat.reduceLT, Nat.reduceEqDiff, Nat.reduceAdd, Nat.reduceMul, Nat.reduceSub, Nat.reduceLeDiff, reduceCtorEq, hc0, hw, hx, s1, c1])
    | (with_reducible refine dKont_in ?_; simp only [go_sem, reduceIte, Nat.reduceLT, Nat.reduceEqDiff, Nat.reduceAdd, Nat.reduceMul, Nat.reduceSub, Nat.reduceLeDiff, reduceCtorEq, hc0, hw, hx, s1, c1])
    | (with_reducible refine aw_drw (by kernel_rfl) kOk_nil kDet_nil ?_; simp only [go_sem, reduceIte, Nat.reduceLT, Nat.reduceEqDiff, Nat.reduceAdd, Nat.reduceMul, Nat.reduceSub, Nat.reduceLeDiff, reduceCtorEq, hc0, hw, hx, s1, c1])
    | (with_reducible refine aw_reg hK ?_; simp only [go_sem, reduceIte, Nat.reduceLT, Nat.reduceEqDiff, Nat.reduceAdd, Nat.reduceMul, Nat.reduceSub, Nat.reduceLeDiff, reduceCtorEq, hc0, hw, hx, s1, c1])
    | (with_reducible refine aw_if ?_; simp only [go_sem, reduceIte, Nat.reduceLT, Nat.reduceEqDiff, Nat.reduceAdd, Nat.reduceMul, Nat.reduceSub, Nat.reduceLeDiff, reduceCtorEq, hc0, hw, hx, s1, c1])
    | (with_reducible refine aw_block ?_)
    | (with_reducible refine aw_ret ?_; (try simp only [thenQ, blockQ]); refine aw_ret' ?_; simp only [go_sem, reduceIte, Nat.reduceLT, Nat.reduceEqDiff, Nat.reduceAdd, Nat.reduceMul, Nat.reduceSub, Nat.reduceLeDiff, reduceCtorEq, hc0, hw, hx, s1, c1])
    | (with_reducible refine aw_exit ?_; simp only [thenQ, blockQ, reduceIte, Nat.reduceEqDiff])
    | (with_reducible refine aw_skip ?_; simp only [thenQ, blockQ])
    | (with_reducible refine gate_intro (fun h => ?_) (fun h => ?_) <;> simp only [h, go_sem, reduceIte, Nat.reduceLT, Nat.reduceEqDiff, Nat.reduceAdd, Nat.reduceMul, Nat.reduceSub, Nat.reduceLeDiff, reduceCtorEq, hc0, hw, hx, s1, c1] <;> (try simp only [decide_eq_true_eq, decide_eq_false_iff_not, Bool.not_true] at h))
    | (with_reducible refine chk_in (by kernel_rfl) ?_)
    | (with_reducible refine And.intro (And.intro (by omega) (by omega)) ?_)
    | (with_reducible refine And.intro (by omega) ?_)
    | (rw [get_in]; rotate_left; omega; simp only [go_sem, reduceIte, Nat.reduceLT, Nat.reduceEqDiff, Nat.reduceAdd, Nat.reduceMul, Nat.reduceSub, Nat.reduceLeDiff, reduceCtorEq, hc0, hw, hx, s1, c1])
    | fail)
      all_goals refine ⟨i + 1, (by rw [take_at (·.1) hx, List.range_succ, List.map_append, List.map_cons, List.map_nil, hcls]; exact weak_in [(101, _), (100, _)] (by repeat' (first | trivial | constructor | rfl)) (by repeat' (first | trivial | constructor | rfl)) (by rfl) (by rfl) (by rfl)), by omega, by omega⟩
    | succ m =>
      have hc0 : decide ((((m + 1 : Nat) : Int) - 1) ≥ 0) = true := by simp <;> omega
      have hm0 : (((m + 1 : Nat) : Int) - 1) = (m : Int) := by omega
      have hw2 : IntKind.i64.wrap ((m : Int) - 1) = (m : Int) - 1 := wr64 (by omega) (by omega)
      obtain ⟨f, hf⟩ : ∃ f, l[m]? = some f := ⟨_, List.getElem?_eq_getElem (by omega)⟩
      simp only [hm0] at hc0 ⊢
      repeat' (first
    | (with_reducible refine aw_seq ?_)
    | (with_reducible refine kont_in ?_; simp only [go_sem, reduceIte, Nat.reduceLT, Nat.reduceEqDiff, Nat.reduceAdd, Nat.reduceMul, Nat.reduceSub, Nat.reduceLeDiff, reduceCtorEq, hc0, hw, hw2, hx, hf, eeD_eqc, eq_self, s1, c1])
    | (with_reducible refine dKont_in ?_; simp only [go_sem, reduceIte, Nat.reduceLT, Nat.reduceEqDiff, Nat.reduceAdd, Nat.reduceMul, Nat.reduceSub, Nat.reduceLeDiff, reduceCtorEq, hc0, hw, hw2, hx, hf, eeD_eqc, eq_self, s1, c1])
    | (with_reducible refine aw_drw (by kernel_rfl) kOk_nil kDet_nil ?_; simp only [go_sem, reduceIte, Nat.reduceLT, Nat.reduceEqDiff, Nat.reduceAdd, Nat.reduceMul, Nat.reduceSub, Nat.reduceLeDiff, reduceCtorEq, hc0, hw, hw2, hx, hf, eeD_eqc, eq_self, s1, c1])
    | (with_reducible refine aw_reg hK ?_; simp only [go_sem, reduceIte, Nat.reduceLT, Nat.reduceEqDiff, Nat.reduceAdd, Nat.reduceMul, Nat.reduceSub, Nat.reduceLeDiff, reduceCtorEq, hc0, hw, hw2, hx, hf, eeD_eqc, eq_self, s1, c1])
    | (with_reducible refine aw_if ?_; simp only [go_sem, reduceIte, Nat.reduceLT, Nat.reduceEqDiff, Nat.reduceAdd, Nat.reduceMul, Nat.reduceSub, Nat.reduceLeDiff, reduceCtorEq, hc0, hw, hw2, hx, hf, eeD_eqc, eq_self, s1, c1])
    | (with_reducible refine aw_block ?_)
    | (with_reducible refine aw_ret ?_; (try simp only [thenQ, blockQ]); refine aw_ret' ?_; simp only [go_sem, reduceIte, Nat.reduceLT, Nat.reduceEqDiff, Nat.reduceAdd, Nat.reduceMul, Nat.reduceSub, Nat.reduceLeDiff, reduceCtorEq, hc0, hw, hw2, hx, hf, eeD_eqc, eq_self, s1, c1])
    | (with_reducible refine aw_exit ?_; simp only [thenQ, blockQ, reduceIte, Nat.reduceEqDiff])
    | (with_reducible refine aw_skip ?_; simp only [thenQ, blockQ])
    | (with_reducible refine gate_intro (fun h => ?_) (fun h => ?_) <;> simp only [h, go_sem, reduceIte, Nat.reduceLT, Nat.reduceEqDiff, Nat.reduceAdd, Nat.reduceMul, Nat.reduceSub, Nat.reduceLeDiff, reduceCtorEq, hc0, hw, hw2, hx, hf, eeD_eqc, eq_self, s1, c1] <;> (try simp only [decide_eq_true_eq, decide_eq_false_iff_not, Bool.not_true] at h))
    | (with_reducible refine chk_in (by kernel_rfl) ?_)
    | (with_reducible refine And.intro (And.intro (by omega) (by omega)) ?_)
    | (with_reducible refine And.intro (by omega) ?_)
    | (rw [get_in]; rotate_left; omega; simp only [go_sem, reduceIte, Nat.reduceLT, Nat.reduceEqDiff, Nat.reduceAdd, Nat.reduceMul, Nat.reduceSub, Nat.reduceLeDiff, reduceCtorEq, hc0, hw, hw2, hx, hf, eeD_eqc, eq_self, s1, c1])
    | fail)
      · exact ⟨(m, m), weak_in [(101, 101), (100, 100)] (by repeat' (first | trivial | constructor | rfl)) (by repeat' (first | trivial | constructor | rfl)) (by rfl) (by rfl) (by rfl), ⟨by omega, by omega, by rw [hf, h], fun k h1 h2 => by omega⟩, by simp⟩
      · refine ⟨(m, q), weak_in [(101, 101), (100, 100)] (by repeat' (first | trivial | constructor | rfl)) (by repeat' (first | trivial | constructor | rfl)) (by rfl) (by rfl) (by rfl), ⟨by omega, by omega, by rw [hqe, hx], fun k h1 h2 => ?_⟩, by simp⟩
        rcases Nat.lt_or_ge m k with h' | h'
        · rw [← hx]; exact hqm k h' h2
        · have : k = m := by omega
          subst this; rw [hf]; intro h3; exact h (Option.some.inj h3).symm
  | none =>
    have hge : l.length ≤ i := by simpa using hx
    have hc : decide ((i : Int) < (l.length : Int)) = false := by simp <;> omega
    have hi' : i = l.length := by omega
    subst hi'
    have ht : (l.take l.length).map (·.1) = l.map (·.1) := by rw [List.take_length]
    have hcl : ((List.range l.length).map fun j => ((clsN l j : Nat) : Int)) = clsI l := rfl
    simp only [ht, hcl]
    have hr := evR_can l
    have hlm : (l.map (·.1)).length ≤ 1000000 := by simpa using hl
    by_cases h3 : 300 < (evF l).length
    case pos =>
      rw [if_pos h3] at hr
      have hb : ((3 : Int) != 0) = true := rfl
      repeat' (first
    | (with_reducible refine aw_seq ?_)
    | (with_reducible refine kont_in ?_; simp only [go_sem, reduceIte, Nat.reduceLT, Nat.reduceEqDiff, Nat.reduceAdd, Nat.reduceMul, Nat.reduceSub, Nat.reduceLeDiff, reduceCtorEq, hc, hr, hb, s1, c1])
    | (with_reducible refine dKont_in ?_; simp only [go_sem, reduceIte, Nat.reduceLT, Nat.reduceEqDiff, Nat.reduceAdd, Nat.reduceMul, Nat.reduceSub, Nat.reduceLeDiff, reduceCtorEq, hc, hr, hb, s1, c1])
    | (with_reducible refine aw_drw (by kernel_rfl) kOk_nil kDet_nil ?_; simp only [go_sem, reduceIte, Nat.reduceLT, Nat.reduceEqDiff, Nat.reduceAdd, Nat.reduceMul, Nat.reduceSub, Nat.reduceLeDiff, reduceCtorEq, hc, hr, hb, s1, c1])
    | (with_reducible refine aw_reg hK ?_; simp only [go_sem, reduceIte, Nat.reduceLT, Nat.reduceEqDiff, Nat.reduceAdd, Nat.reduceMul, Nat.reduceSub, Nat.reduceLeDiff, reduceCtorEq, hc, hr, hb, s1, c1])
    | (with_reducible refine aw_if ?_; simp only [go_sem, reduceIte, Nat.reduceLT, Nat.reduceEqDiff, Nat.reduceAdd, Nat.reduceMul, Nat.reduceSub, Nat.reduceLeDiff, reduceCtorEq, hc, hr, hb, s1, c1])
    | (with_reducible refine aw_block ?_)
    | (with_reducible refine aw_ret ?_; (try simp only [thenQ, blockQ]); refine aw_ret' ?_; simp only [go_sem, reduceIte, Nat.reduceLT, Nat.reduceEqDiff, Nat.reduceAdd, Nat.reduceMul, Nat.reduceSub, Nat.reduceLeDiff, reduceCtorEq, hc, hr, hb, s1, c1])
    | (with_reducible refine aw_exit ?_; simp only [thenQ, blockQ, reduceIte, Nat.reduceEqDiff])
    | (with_reducible refine aw_skip ?_; simp only [thenQ, blockQ])
    | (with_reducible refine gate_intro (fun h => ?_) (fun h => ?_) <;> simp only [h, go_sem, reduceIte, Nat.reduceLT, Nat.reduceEqDiff, Nat.reduceAdd, Nat.reduceMul, Nat.reduceSub, Nat.reduceLeDiff, reduceCtorEq, hc, hr, hb, s1, c1] <;> (try simp only [decide_eq_true_eq, decide_eq_false_iff_not, Bool.not_true] at h))
    | (with_reducible refine chk_in (by kernel_rfl) ?_)
    | (with_reducible refine And.intro (And.intro (by omega) (by omega)) ?_)
    | (with_reducible refine And.intro (by omega) ?_)
    | (refine canR_call rfl (l.map (·.1)) (clsI l) rfl rfl hlm (memOf_free rfl) ?_)
    | (rw [get_in]; rotate_left; omega; simp only [go_sem, reduceIte, Nat.reduceLT, Nat.reduceEqDiff, Nat.reduceAdd, Nat.reduceMul, Nat.reduceSub, Nat.reduceLeDiff, reduceCtorEq, hc, hr, hb, s1, c1])
    | fail)
      refine ⟨_, rfl, ?_, rfl⟩
      simp only [evR, if_pos h3]
      exact .z _ _ _ (.refl _)
    rw [if_neg h3] at hr
    have hb : ((0 : Int) != 0) = false := rfl
    have hol := evF_len l
    have hev : evR l = (evL l, 0) := by unfold evR; rw [if_neg h3]
    have hlt : ∀ j, j ∈ evF l → j < l.length := fun j hj => evF_lt hj
    have hL : evL l = (evF l).map (at0 l) := rfl
    rw [hL] at hev
    generalize ho : evF l = o at *
    repeat' (first
    | (with_reducible refine aw_seq ?_)
    | (with_reducible refine kont_in ?_; simp only [go_sem, reduceIte, Nat.reduceLT, Nat.reduceEqDiff, Nat.reduceAdd, Nat.reduceMul, Nat.reduceSub, Nat.reduceLeDiff, reduceCtorEq, hc, hr, hb, s1, c1])
    | (with_reducible refine dKont_in ?_; simp only [go_sem, reduceIte, Nat.reduceLT, Nat.reduceEqDiff, Nat.reduceAdd, Nat.reduceMul, Nat.reduceSub, Nat.reduceLeDiff, reduceCtorEq, hc, hr, hb, s1, c1])
    | (with_reducible refine aw_drw (by kernel_rfl) kOk_nil kDet_nil ?_; simp only [go_sem, reduceIte, Nat.reduceLT, Nat.reduceEqDiff, Nat.reduceAdd, Nat.reduceMul, Nat.reduceSub, Nat.reduceLeDiff, reduceCtorEq, hc, hr, hb, s1, c1])
    | (with_reducible refine aw_reg hK ?_; simp only [go_sem, reduceIte, Nat.reduceLT, Nat.reduceEqDiff, Nat.reduceAdd, Nat.reduceMul, Nat.reduceSub, Nat.reduceLeDiff, reduceCtorEq, hc, hr, hb, s1, c1])
    | (with_reducible refine aw_if ?_; simp only [go_sem, reduceIte, Nat.reduceLT, Nat.reduceEqDiff, Nat.reduceAdd, Nat.reduceMul, Nat.reduceSub, Nat.reduceLeDiff, reduceCtorEq, hc, hr, hb, s1, c1])
    | (with_reducible refine aw_block ?_)
    | (with_reducible refine aw_ret ?_; (try simp only [thenQ, blockQ]); refine aw_ret' ?_; simp only [go_sem, reduceIte, Nat.reduceLT, Nat.reduceEqDiff, Nat.reduceAdd, Nat.reduceMul, Nat.reduceSub, Nat.reduceLeDiff, reduceCtorEq, hc, hr, hb, s1, c1])
    | (with_reducible refine aw_exit ?_; simp only [thenQ, blockQ, reduceIte, Nat.reduceEqDiff])
    | (with_reducible refine aw_skip ?_; simp only [thenQ, blockQ])
    | (with_reducible refine gate_intro (fun h => ?_) (fun h => ?_) <;> simp only [h, go_sem, reduceIte, Nat.reduceLT, Nat.reduceEqDiff, Nat.reduceAdd, Nat.reduceMul, Nat.reduceSub, Nat.reduceLeDiff, reduceCtorEq, hc, hr, hb, s1, c1] <;> (try simp only [decide_eq_true_eq, decide_eq_false_iff_not, Bool.not_true] at h))
    | (with_reducible refine chk_in (by kernel_rfl) ?_)
    | (with_reducible refine And.intro (And.intro (by omega) (by omega)) ?_)
    | (with_reducible refine And.intro (by omega) ?_)
    | (refine canR_call rfl (l.map (·.1)) (clsI l) rfl rfl hlm (memOf_free rfl) ?_)
    | (rw [get_in]; rotate_left; omega; simp only [go_sem, reduceIte, Nat.reduceLT, Nat.reduceEqDiff, Nat.reduceAdd, Nat.reduceMul, Nat.reduceSub, Nat.reduceLeDiff, reduceCtorEq, hc, hr, hb, s1, c1])
    | fail)
    refine aw_nil 11 400 8 rfl rfl ?_
    refine aw_rounds (α := Nat) (fun i => ⟨envOf [(12, i64 i), (9, .row 101), (11, .row 100), (0, .sl 8 (eeR l))], memOf [(101, .row 1 (intL (natI o)) true), (100, .row 8 (eeR ((o.take i).map (at0 l))) true)], 200⟩)
      (fun i => i ≤ o.length) (fun i => o.length - i) 0 (Nat.zero_le _) (by simp only [List.take_zero, List.map_nil]; exact weak_in [(101, 224), (100, 400)] (by repeat' (first | trivial | constructor | rfl)) (by repeat' (first | trivial | constructor | rfl)) (by rfl) (by rfl) (by rfl)) ?_
    intro i hi
    cases hx : o[i]? with
    | none =>
      have hge : o.length ≤ i := by simpa using hx
      have hc : decide ((i : Int) < (o.length : Int)) = false := by simp <;> omega
      repeat' (first
    | (with_reducible refine aw_seq ?_)
    | (with_reducible refine kont_in ?_; simp only [go_sem, reduceIte, Nat.reduceLT, Nat.reduceEqDiff, Nat.reduceAdd, Nat.reduceMul, Nat.reduceSub, Nat.reduceLeDiff, reduceCtorEq, hc, s1, c1])
    | (with_reducible refine dKont_in ?_; simp only [go_sem, reduceIte, Nat.reduceLT, Nat.reduceEqDiff, Nat.reduceAdd, Nat.reduceMul, Nat.reduceSub, Nat.reduceLeDiff, reduceCtorEq, hc, s1, c1])
    | (with_reducible refine aw_drw (by kernel_rfl) kOk_nil kDet_nil ?_; simp only [go_sem, reduceIte, Nat.reduceLT, Nat.reduceEqDiff, Nat.reduceAdd, Nat.reduceMul, Nat.reduceSub, Nat.reduceLeDiff, reduceCtorEq, hc, s1, c1])
    | (with_reducible refine aw_reg hK ?_; simp only [go_sem, reduceIte, Nat.reduceLT, Nat.reduceEqDiff, Nat.reduceAdd, Nat.reduceMul, Nat.reduceSub, Nat.reduceLeDiff, reduceCtorEq, hc, s1, c1])
    | (with_reducible refine aw_if ?_; simp only [go_sem, reduceIte, Nat.reduceLT, Nat.reduceEqDiff, Nat.reduceAdd, Nat.reduceMul, Nat.reduceSub, Nat.reduceLeDiff, reduceCtorEq, hc, s1, c1])
    | (with_reducible refine aw_block ?_)
    | (with_reducible refine aw_ret ?_; (try simp only [thenQ, blockQ]); refine aw_ret' ?_; simp only [go_sem, reduceIte, Nat.reduceLT, Nat.reduceEqDiff, Nat.reduceAdd, Nat.reduceMul, Nat.reduceSub, Nat.reduceLeDiff, reduceCtorEq, hc, s1, c1])
    | (with_reducible refine aw_exit ?_; simp only [thenQ, blockQ, reduceIte, Nat.reduceEqDiff])
    | (with_reducible refine aw_skip ?_; simp only [thenQ, blockQ])
    | (with_reducible refine gate_intro (fun h => ?_) (fun h => ?_) <;> simp only [h, go_sem, reduceIte, Nat.reduceLT, Nat.reduceEqDiff, Nat.reduceAdd, Nat.reduceMul, Nat.reduceSub, Nat.reduceLeDiff, reduceCtorEq, hc, s1, c1] <;> (try simp only [decide_eq_true_eq, decide_eq_false_iff_not, Bool.not_true] at h))
    | (with_reducible refine chk_in (by kernel_rfl) ?_)
    | (with_reducible refine And.intro (And.intro (by omega) (by omega)) ?_)
    | (with_reducible refine And.intro (by omega) ?_)
    | (rw [get_in]; rotate_left; omega; simp only [go_sem, reduceIte, Nat.reduceLT, Nat.reduceEqDiff, Nat.reduceAdd, Nat.reduceMul, Nat.reduceSub, Nat.reduceLeDiff, reduceCtorEq, hc, s1, c1])
    | fail)
      refine ⟨_, rfl, ?_, rfl⟩
      rw [hev, List.take_of_length_le hge]; exact .refl _
    | some j =>
      have hlo : i < o.length := by
        rcases Nat.lt_or_ge i o.length with h | h
        · exact h
        · rw [List.getElem?_eq_none h] at hx; cases hx
      have hc : decide ((i : Int) < (o.length : Int)) = true := by simp <;> omega
      have hw := wrS (i := i) (by omega)
      have hj := hlt j (List.mem_of_getElem? hx)
      have hlj := get_in hj
      repeat' (first
    | (with_reducible refine aw_seq ?_)
    | (with_reducible refine kont_in ?_; simp only [go_sem, reduceIte, Nat.reduceLT, Nat.reduceEqDiff, Nat.reduceAdd, Nat.reduceMul, Nat.reduceSub, Nat.reduceLeDiff, reduceCtorEq, hc, hw, hx, hlj, s1, c1])
    | (with_reducible refine dKont_in ?_; simp only [go_sem, reduceIte, Nat.reduceLT, Nat.reduceEqDiff, Nat.reduceAdd, Nat.reduceMul, Nat.reduceSub, Nat.reduceLeDiff, reduceCtorEq, hc, hw, hx, hlj, s1, c1])
    | (with_reducible refine aw_drw (by kernel_rfl) kOk_nil kDet_nil ?_; simp only [go_sem, reduceIte, Nat.reduceLT, Nat.reduceEqDiff, Nat.reduceAdd, Nat.reduceMul, Nat.reduceSub, Nat.reduceLeDiff, reduceCtorEq, hc, hw, hx, hlj, s1, c1])
    | (with_reducible refine aw_reg hK ?_; simp only [go_sem, reduceIte, Nat.reduceLT, Nat.reduceEqDiff, Nat.reduceAdd, Nat.reduceMul, Nat.reduceSub, Nat.reduceLeDiff, reduceCtorEq, hc, hw, hx, hlj, s1, c1])
    | (with_reducible refine aw_if ?_; simp only [go_sem, reduceIte, Nat.reduceLT, Nat.reduceEqDiff, Nat.reduceAdd, Nat.reduceMul, Nat.reduceSub, Nat.reduceLeDiff, reduceCtorEq, hc, hw, hx, hlj, s1, c1])
    | (with_reducible refine aw_block ?_)
    | (with_reducible refine aw_ret ?_; (try simp only [thenQ, blockQ]); refine aw_ret' ?_; simp only [go_sem, reduceIte, Nat.reduceLT, Nat.reduceEqDiff, Nat.reduceAdd, Nat.reduceMul, Nat.reduceSub, Nat.reduceLeDiff, reduceCtorEq, hc, hw, hx, hlj, s1, c1])
    | (with_reducible refine aw_exit ?_; simp only [thenQ, blockQ, reduceIte, Nat.reduceEqDiff])
    | (with_reducible refine aw_skip ?_; simp only [thenQ, blockQ])
    | (with_reducible refine gate_intro (fun h => ?_) (fun h => ?_) <;> simp only [h, go_sem, reduceIte, Nat.reduceLT, Nat.reduceEqDiff, Nat.reduceAdd, Nat.reduceMul, Nat.reduceSub, Nat.reduceLeDiff, reduceCtorEq, hc, hw, hx, hlj, s1, c1] <;> (try simp only [decide_eq_true_eq, decide_eq_false_iff_not, Bool.not_true] at h))
    | (with_reducible refine chk_in (by kernel_rfl) ?_)
    | (with_reducible refine And.intro (And.intro (by omega) (by omega)) ?_)
    | (with_reducible refine And.intro (by omega) ?_)
    | (rw [get_in]; rotate_left; omega; simp only [go_sem, reduceIte, Nat.reduceLT, Nat.reduceEqDiff, Nat.reduceAdd, Nat.reduceMul, Nat.reduceSub, Nat.reduceLeDiff, reduceCtorEq, hc, hw, hx, hlj, s1, c1])
    | fail)
      all_goals refine ⟨i + 1, (by rw [take_at (at0 l) hx, ← eeR_app1]; exact weak_in [(101, 101), (100, _)] (by repeat' (first | trivial | constructor | rfl)) (by repeat' (first | trivial | constructor | rfl)) (by rfl) (by rfl) (by rfl)), by omega, by omega⟩
end Go.Proofs.R1

/- entry.Fold in plain words; the calls that it makes. -/
set_option linter.unusedVariables false
set_option linter.unusedSimpArgs false
set_option maxRecDepth 8000
set_option maxHeartbeats 16000000
namespace Go.Proofs.R1
open Go Go.Abs

abbrev Rf := Ident × Int
def rfD (r : Rf) : List D := [i64 r.1.1, i64 r.1.2, i64 r.2]
def rfR (l : List Rf) : List (List D) := l.map rfD
@[go_sem] theorem rfR_len (l : List Rf) : (rfR l).length = l.length := by simp [rfR]
@[go_sem] theorem rfR_get (l : List Rf) (n : Nat) : (rfR l)[n]? = (l[n]?).map rfD := by simp [rfR]
@[go_sem] theorem rfR_app (l r : List Rf) : rfR l ++ rfR r = rfR (l ++ r) := by simp [rfR]
theorem rfR_app1 (l : List Rf) (a b c : Int) : rfR l ++ [[i64 a, i64 b, i64 c]] = rfR (l ++ [((a, b), c)]) := by simp [rfR, rfD]
@[go_sem] theorem rfR_take (l : List Rf) (n : Nat) : (rfR l).take n = rfR (l.take n) := by simp [rfR, List.map_take]
@[go_sem] theorem rfD_len (s : Rf) : (rfD s).length = 3 := rfl
@[go_sem] theorem rfD_take (s : Rf) : (rfD s).take 3 = rfD s := rfl
theorem rfR_plain (l : List Rf) (e : List D) (h : e ∈ rfR l) : e.all plainC = true := by
  simp only [rfR, List.mem_map] at h
  obtain ⟨x, -, rfl⟩ := h; rfl
theorem plain_own {k : Nat} {es : List (List D)} (h : ∀ e, e ∈ es → e.all plainC = true) : plainRD (.own k es) = true := by simpa [plainRD] using h
theorem plain3 (x : List Er) (y : List Rf) (z : Int) : ([.own 4 (erR x), .own 3 (rfR y), .d (i64 z)] : List RD).all plainRD = true := by
  rw [List.all_cons, plain_own (erR_plain x), List.all_cons, plain_own (rfR_plain y)]; rfl
/-- One event. -/
def stepR (d : Dl) (s : List Er × List Rf) (e : EE) : List Er × List Rf :=
  if (applyR s.1 d e).2 = 0 then ((applyR s.1 d e).1, s.2) else (s.1, s.2 ++ [((e.1.2.1, e.1.2.2), (applyR s.1 d e).2)])
def foldL (d : Dl) (es : List EE) : List Er × List Rf := es.foldl (stepR d) ([], [])
def foldR (l : List EE) (d : Dl) (u : Int) : List Er × List Rf × Int :=
  if dlV d = false then ([], [], 1) else if (evR l).2 ≠ 0 then ([], [], (evR l).2) else
    ((foldL d ((evR l).1.filter fun e => decide (e.1.1 ≤ u))).1, (foldL d ((evR l).1.filter fun e => decide (e.1.1 ≤ u))).2, 0)
theorem foldL_app (d : Dl) (es : List EE) (e : EE) : foldL d (es ++ [e]) = stepR d (foldL d es) e := by simp [foldL]
theorem foldL_va (d : Dl) (es : List EE) : vaL (foldL d es).1 = true := by
  suffices h : ∀ s : List Er × List Rf, vaL s.1 = true → vaL (es.foldl (stepR d) s).1 = true from h _ rfl
  induction es with
  | nil => intro s h; exact h
  | cons e es ih =>
    intro s h
    refine ih _ ?_
    unfold stepR
    split
    · rename_i h0
      exact (apply_valid (l := s.1) (d := d) (e := e) (m := (applyR s.1 d e).1) (by rw [← h0])).2
    · exact h
theorem foldL_rf (d : Dl) (es : List EE) : (foldL d es).2.length ≤ es.length := by
  suffices h : ∀ s : List Er × List Rf, (es.foldl (stepR d) s).2.length ≤ s.2.length + es.length by have := h ([], []); unfold foldL; simpa using this
  induction es with
  | nil => intro s; simp
  | cons e es ih =>
    intro s
    refine Nat.le_trans (ih _) ?_
    unfold stepR
    split <;> simp <;> omega
/-- In order of their times. -/
theorem evL_asc (l : List EE) : (evL l).Pairwise fun a b => cmpS a.1 b.1 < 0 := by
  have h0 : IsCanon (l.map (·.1)) (clsI l) (canF (l.map (·.1)) (clsI l)) := canF_is _ _
  have hlt : ∀ k, k ∈ canF (l.map (·.1)) (clsI l) → k < l.length := fun k hk => evF_lt hk
  unfold evL evF
  generalize canF (l.map (·.1)) (clsI l) = o at h0 hlt
  rw [List.pairwise_map]
  have h1 : o.Pairwise fun i j => cmpS (stAt (l.map (·.1)) i) (stAt (l.map (·.1)) j) < 0 := h0.1
  have e : ∀ k, k ∈ o → stAt (l.map (·.1)) k = (at0 l k).1 := fun k hk => by
    have hg := List.getElem?_eq_getElem (hlt k hk)
    simp [stAt, at0, hg]
  refine List.Pairwise.imp_of_mem (fun {i j} hi hj h => ?_) h1
  rw [← e i hi, ← e j hj]; exact h
theorem filter_pre {l : List EE} (h : l.Pairwise fun a b => cmpS a.1 b.1 < 0) {u : Int} {i : Nat} (hlo : ∀ k e, k < i → l[k]? = some e → e.1.1 ≤ u) (hat : ∀ e, l[i]? = some e → u < e.1.1) (hi : i ≤ l.length) : l.filter (fun e => decide (e.1.1 ≤ u)) = l.take i := by
  conv => lhs; rw [← List.take_append_drop i l]
  rw [List.filter_append]
  have h1 : (l.take i).filter (fun e => decide (e.1.1 ≤ u)) = l.take i := List.filter_eq_self.2 fun e he => by
    obtain ⟨k, hk⟩ := List.getElem?_of_mem he
    have hki : k < i := by have := (List.getElem?_eq_some_iff.1 hk).1; simp at this; omega
    rw [List.getElem?_take, if_pos hki] at hk
    simpa using hlo k e hki hk
  have h2 : (l.drop i).filter (fun e => decide (e.1.1 ≤ u)) = [] := List.filter_eq_nil_iff.2 fun e he => by
    obtain ⟨k, hk⟩ := List.getElem?_of_mem he
    rw [List.getElem?_drop] at hk
    have hlt : i < l.length := by have := (List.getElem?_eq_some_iff.1 hk).1; omega
    have ha := List.getElem?_eq_getElem hlt
    have h3 := hat _ ha
    rcases Nat.eq_zero_or_pos k with h0 | h0
    · subst h0; rw [Nat.add_zero, ha] at hk; cases hk; simp; omega
    · obtain ⟨hkl, rfl⟩ := List.getElem?_eq_some_iff.1 hk
      have := List.pairwise_iff_getElem.1 h i (i + k) hlt hkl (by omega)
      rw [cmpS_lt] at this
      simp; omega
  rw [h1, h2, List.append_nil]
abbrev idtC : Con where
  α := St
  kinds := [false]
  args := fun s => [.d (.agg (stD s))]
  pre := fun _ => True
  post := fun s r => r = ⟨[.d (.agg [i64 s.2.1, i64 s.2.2])], []⟩
  clean := true
theorem idt_ok : CallOk Try.prog 56 idtC := by
  refine ok_of_body' 8 1 Try.func56 rfl (by decide) Try.ntmps56 (by intro a h; exact ⟨rfl, rfl⟩) (by decide) (by rintro _ a r _ rfl; rfl) ?_
  rintro ⟨a, b, c⟩ -
  simp only [idtC, stD]
  simp only [initE, initMm, List.length_cons, List.length_nil, Nat.reduceAdd]
  repeat' (first
    | (with_reducible refine aw_seq ?_)
    | (with_reducible refine kont_in ?_; simp only [go_sem, reduceIte, Nat.reduceLT, Nat.reduceEqDiff, Nat.reduceAdd, Nat.reduceMul, Nat.reduceSub, Nat.reduceLeDiff, reduceCtorEq])
    | (with_reducible refine dKont_in ?_; simp only [go_sem, reduceIte, Nat.reduceLT, Nat.reduceEqDiff, Nat.reduceAdd, Nat.reduceMul, Nat.reduceSub, Nat.reduceLeDiff, reduceCtorEq])
    | (with_reducible refine aw_drw (by kernel_rfl) kOk_nil kDet_nil ?_; simp only [go_sem, reduceIte, Nat.reduceLT, Nat.reduceEqDiff, Nat.reduceAdd, Nat.reduceMul, Nat.reduceSub, Nat.reduceLeDiff, reduceCtorEq])
    | (with_reducible refine aw_reg kOk_nil ?_; simp only [go_sem, reduceIte, Nat.reduceLT, Nat.reduceEqDiff, Nat.reduceAdd, Nat.reduceMul, Nat.reduceSub, Nat.reduceLeDiff, reduceCtorEq])
    | (with_reducible refine aw_if ?_; simp only [go_sem, reduceIte, Nat.reduceLT, Nat.reduceEqDiff, Nat.reduceAdd, Nat.reduceMul, Nat.reduceSub, Nat.reduceLeDiff, reduceCtorEq])
    | (with_reducible refine aw_block ?_)
    | (with_reducible refine aw_ret ?_; (try simp only [thenQ, blockQ]); refine aw_ret' ?_; simp only [go_sem, reduceIte, Nat.reduceLT, Nat.reduceEqDiff, Nat.reduceAdd, Nat.reduceMul, Nat.reduceSub, Nat.reduceLeDiff, reduceCtorEq])
    | (with_reducible refine aw_exit ?_; simp only [thenQ, blockQ, reduceIte, Nat.reduceEqDiff])
    | (with_reducible refine aw_skip ?_; simp only [thenQ, blockQ])
    | (with_reducible refine gate_intro (fun h => ?_) (fun h => ?_) <;> simp only [h, go_sem, reduceIte, Nat.reduceLT, Nat.reduceEqDiff, Nat.reduceAdd, Nat.reduceMul, Nat.reduceSub, Nat.reduceLeDiff, reduceCtorEq] <;> (try simp only [decide_eq_true_eq, decide_eq_false_iff_not, Bool.not_true] at h))
    | (with_reducible refine chk_in (by kernel_rfl) ?_)
    | (with_reducible refine And.intro (And.intro (by omega) (by omega)) ?_)
    | (with_reducible refine And.intro (by omega) ?_)
    | (rw [get_in]; rotate_left; omega; simp only [go_sem, reduceIte, Nat.reduceLT, Nat.reduceEqDiff, Nat.reduceAdd, Nat.reduceMul, Nat.reduceSub, Nat.reduceLeDiff, reduceCtorEq])
    | fail)
theorem idt_call {K : Kt} (hk : K 56 = some idtC) {np fid : Nat} {M : Mem} {nx : D → Mem → Prop} (s : St) (hf : M fid = none) (hn : nx (.agg [i64 s.2.1, i64 s.2.2]) M) : semCall K np 56 [.agg (stD s)] M fid nx :=
  call_fn hk rfl rfl (fun _ _ h => h) s rfl trivial hf hn
abbrev foC : Con where
  α := List EE × Dl × Int
  kinds := [false, false, false]
  args := fun a => [.d (.sl 8 (eeR a.1)), .d (.agg (dlD a.2.1)), .d (i64 a.2.2)]
  pre := fun a => a.1.length ≤ 1000000
  post := fun a r => r = ⟨[.own 4 (erR (foldR a.1 a.2.1 a.2.2).1), .own 3 (rfR (foldR a.1 a.2.1 a.2.2).2.1), .d (i64 (foldR a.1 a.2.1 a.2.2).2.2)], []⟩
  clean := true
theorem can_call {K : Kt} {f : FuncId} (hk : K f = some eecC) {np fid : Nat} {M : Mem} {nx : D → Mem → Prop} (l : List EE) {x : D} (hx : fz M true 4 x = some (.sl 8 (eeR l))) (hp : l.length ≤ 1000000) (hf : ∀ j, M (fid + j) = none)
    (hn : nx (.tup [.row fid, i64 (evR l).2]) (upd M fid (some (.row 8 (eeR (evR l).1) true)))) : semCall K np f [x] M fid nx :=
  call_clR hk rfl rfl l (by simp only [argsV, mapO, hx]; rfl) hp hf (by rintro r rfl; exact hn)
theorem ap_call {K : Kt} {f : FuncId} (hk : K f = some apC) {np fid : Nat} {M : Mem} {nx : D → Mem → Prop} (l : List Er) (d : Dl) (e : EE) {x : D} (hx : fz M true 4 x = some (.sl 4 (erR l))) (hp : l.length ≤ 1000000) (hf : ∀ j, M (fid + j) = none)
    (hn : nx (.tup [.row fid, i64 (applyR l d e).2]) (upd M fid (some (.row 4 (erR (applyR l d e).1) true)))) : semCall K np f [x, .agg (dlD d), .agg (eeD e)] M fid nx :=
  call_clR hk rfl rfl (l, d, e) (by simp only [argsV, mapO, hx]; rfl) hp hf (by rintro r rfl; exact hn)
theorem eeD_g0 (e : EE) : (eeD e)[0]? = some (i64 e.1.1) := rfl
theorem eeD_g1 (e : EE) : (eeD e)[1]? = some (i64 e.1.2.1) := rfl
theorem eeD_g2 (e : EE) : (eeD e)[2]? = some (i64 e.1.2.2) := rfl
@[go_sem] theorem dlD_all (d : Dl) : (dlD d).all isCell = true := rfl
@[go_sem] theorem dlD_len (d : Dl) : (dlD d).length = 2 := rfl
@[go_sem] theorem dlD_take (d : Dl) : (dlD d).take 2 = dlD d := rfl
theorem evR_len (l : List EE) : (evR l).1.length ≤ 300 := by
  unfold evR
  split
  · simp
  · simp only [evL, List.length_map]; omega
end Go.Proofs.R1
