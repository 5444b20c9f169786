/- The abstract machine: what the walk's simp knows. -/
import Derived.Test.YtgihcmeifafnjaaCAbsU
import Derived.Attr
set_option linter.unusedVariables false
set_option linter.unusedSimpArgs false
namespace Go.Abs
open Go

/-- An element of a list; where there is none, any. -/
def at0 {α : Type} [Inhabited α] (l : List α) (n : Nat) : α := (l[n]?).getD default
theorem get_in {α : Type} [Inhabited α] {l : List α} {n : Nat} (h : n < l.length) : l[n]? = some (at0 l n) := by
  unfold at0; rw [List.getElem?_eq_getElem h]; rfl
theorem at0_mem {α : Type} [Inhabited α] {l : List α} {n : Nat} (h : n < l.length) : at0 l n ∈ l := List.mem_of_getElem? (get_in h)
attribute [go_sem] implies_true Int.toNat_zero Nat.sub_zero List.drop_zero List.append_nil List.length_append List.length_take List.length_drop put_some put_none upd_memOf envOf_cons envOf_nil memOf_cons memOf_nil sem opd cellD flat semBin semBinV intOp semPick_b semUn semConv semExtract semAlloc semBox semBuildT semBuildSlice semLoad semStore semNil semMakeFunc semMakeSlice semSlice semFieldAddr semField semIndexAddr semIndex semBuiltin semLen semAppend semMM mmD semMakeMap semLookup semMapUpdate semRange semNext semEntry getCell getCells cellsD isCell partsD boundD lenD rowsOf frz frz0 frz1 frzL frzA fz fz0 mapO bsD fillD splice eqCells ckOk kdD keyOk okD List.length_set List.length_replicate List.replicate_succ List.replicate_zero List.set_cons_zero List.set_cons_succ List.length_map List.getElem?_map Int.toNat_natCast true_and and_true List.length_cons List.length_nil List.map_cons List.map_nil List.all_cons List.all_nil List.getElem?_cons_zero List.getElem?_cons_succ List.take_succ_cons List.take_zero List.drop_succ_cons List.drop_zero List.cons_append List.nil_append List.append_nil List.toList_toArray Bool.and_true Bool.true_and Bool.not_true Bool.not_false beq_self_eq_true Option.map_some Option.map_none Option.isSome_some runL_nil runL_cons stepK at_ dstOk gate_tt gate_tf gate_ft gate_ff endQ_app thenQ blockQ condP kOf_cons kOf_nil argsV argsF consAD ioArg ioIds ioM retD retM tupD dRunL_nil dRunL_cons footK foot ids ids0 nf nf0 nf1 fid4 List.flatMap_cons List.flatMap_nil retP retP2 resD rdOf ownId ioOut ioBoxes frzR frzR1 List.filterMap_cons List.filterMap_nil List.nodup_nil List.nodup_cons List.not_mem_nil not_false_eq_true List.mem_cons or_false

end Go.Abs
