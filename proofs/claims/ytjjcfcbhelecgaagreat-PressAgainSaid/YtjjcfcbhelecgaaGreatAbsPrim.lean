/- Library functions by their contracts: slices.Sort of ints. Conditions: the contracts, as hypotheses. -/
import Derived.Test.YtjjcfcbhelecgaaGreatAbsSort
import Derived.Test.YtjjcfcbhelecgaaGreatAbsList
import Derived.Test.YtjjcfcbhelecgaaGreatAbsPcall
import Derived.Shelf.Slices.In.SortNone
import Derived.Lib.SortBridge
import Derived.Sort.EveryDepth
set_option linter.unusedVariables false
set_option linter.unusedSimpArgs false
namespace Go.Abs

variable {P : Program}
theorem sortPrim_ok {f : FuncId} (he : Enters P f) (h0 : ∀ (p : Option Addr) (cap : Nat) (w : World), Calls P f #[.slice p 0 cap] w fun e w' => e = .returned (.tuple #[]) ∧ w' = w)
    (h1 : ∀ (blk off cap : Nat) (zs : List Int) (w : World), Sort.Holds (Value.int .i64) w blk off zs.toArray → blk < w.heap.size → zs.length < 4611686018427387904 →
      Calls P f #[.slice (some ⟨blk, off, none⟩) zs.length cap] w fun e w' => e = .returned (.tuple #[]) ∧ ∃ n os, w' = Sort.grow (Sort.putRow (Value.int .i64) (Sort.ahead w n) blk off (zs.mergeSort fun x y => decide (x ≤ y)).toArray) os) :
    PrimOk P f sortPrim := by
  intro xs H a H' h
  unfold sortPrim at h
  split at h
  · -- of none
    cases h
    refine ⟨Nat.le_refl _, he, fun c B vs hB g hr => ?_⟩
    obtain ⟨v, rfl, rv⟩ : ∃ v, vs = [v] ∧ Rep c (.lst [] _) v := by
      match vs, hr with
      | [v], hr => exact ⟨v, rfl, hr.2 0 (by simp)⟩
      | [], hr => exact absurd hr.1 (by simp)
      | _ :: _ :: _, hr => exact absurd hr.1 (by simp)
    have hi := rv.lst_i
    cases hi with
    | lst es full blk off cap sz f hne => exact absurd rfl hne
    | lst0 full a cap hf =>
      refine (h0 a cap c.w).mono fun e w' => ?_
      rintro ⟨rfl, rfl⟩
      exact ⟨c, rfl, g, .imm (.tuple [] #[] rfl (fun i h => absurd h (by simp))), Nxt.refl c _⟩
  · rename_i b v n
    split at h
    · rename_i v' es hb
      split at h
      · rename_i hc
        obtain ⟨rfl, rfl, hn⟩ := hc
        simp only [Option.bind_eq_some_iff, Option.some.injEq] at h
        obtain ⟨zs, hz, h⟩ := h
        cases h
        have hes : es = nums .i64 zs := ints64_some hz
        have hfold : ((isortI zs).map fun x => [AV.int .i64 x]) = nums .i64 (isortI zs) := rfl
        rw [hfold]
        subst hes
        refine ⟨by simp, he, fun c B vs hB g hr => ?_⟩
        obtain ⟨u, rfl, ru⟩ : ∃ u, vs = [u] ∧ Rep c (.sl b v' 0 (nums .i64 zs).length) u := by
          match vs, hr with
          | [v], hr => exact ⟨v, rfl, hr.2 0 (by simp)⟩
          | [], hr => exact absurd hr.1 (by simp)
          | _ :: _ :: _, hr => exact absurd hr.1 (by simp)
        obtain ⟨ad, cap, rfl, hN, hcap, hl⟩ := ru.sl_eq
        obtain ⟨l, hl1, hblk⟩ := g.tot b _ hb rfl
        obtain ⟨hls, _, hfit, hlen, cs, cf, hheap, hcs, hcell⟩ := hblk
        obtain ⟨e1, e2⟩ := hl l hl1
        subst e1
        have hcel : ∀ j (hj : j < zs.length), cs[l.off + j]? = some (.int .i64 zs[j]) := fun j hj => by
          obtain ⟨q1, q2, q3⟩ := hcell j (by simpa using hj) 0 (by simp [nums])
          simp only [nums, List.getElem_map, List.getElem_cons_zero] at q3
          rw [q3.int_eq] at q1
          simpa using q1
        have hblt : l.blk < c.w.heap.size := (g.rn _ _ _ hl1).2
        have hold : Sort.Holds (Value.int .i64) c.w l.blk (l.off + 0 * l.sz) zs.toArray := by
          intro j hj
          have hj' : j < zs.length := by simpa using hj
          have := hcel j hj'
          constructor
          · simp [World.cell?, hheap, this, hj']
          · simp [World.frozen?, hheap]
        have hcall := h1 l.blk (l.off + 0 * l.sz) cap zs c.w hold hblt (by simp at hn; omega)
        simp only [nums_length] at *
        refine hcall.mono fun e w' => ?_
        rintro ⟨rfl, q, os, rfl⟩
        rw [isortI_eq]
        have hw : Wrote c.w (Sort.grow (Sort.putRow (Value.int .i64) (Sort.ahead c.w q) l.blk (l.off + 0 * l.sz) (isortI zs).toArray) os) l.blk := by
          refine ⟨rfl, rfl, rfl, by simp [Sort.grow, Sort.putRow, Sort.mapBlock, Sort.ahead], fun i hi hne => ?_⟩
          simp [Sort.grow, Sort.putRow, Sort.mapBlock, Sort.ahead, Array.getElem?_append, hi, Array.getElem_modify, Ne.symm hne]
        have hw' : (Sort.grow (Sort.putRow (Value.int .i64) (Sort.ahead c.w q) l.blk (l.off + 0 * l.sz) (isortI zs).toArray) os).heap[l.blk]? = some (.cells (Sort.putCells (Value.int .i64) l.off (isortI zs).toArray cs) l.el (0, 0)) := by
          have : (c.w.heap.modify l.blk (Sort.onCells (Sort.putCells (Value.int .i64) (l.off + 0 * l.sz) (isortI zs).toArray)))[l.blk]? = some (.cells (Sort.putCells (Value.int .i64) l.off (isortI zs).toArray cs) l.el (0, 0)) := by
            simp [Array.getElem?_modify, hheap, Sort.onCells]
          simp only [Sort.grow, Sort.putRow, Sort.mapBlock, Sort.ahead]
          rw [Array.getElem?_append_left (by simpa using hblt)]
          exact this
        obtain ⟨q1, q2⟩ := good_set g hb rfl hl1 hw (.cells 1 (nums .i64 (isortI zs))) rfl (by
          refine ⟨hls, Nat.one_pos, by simpa using hfit, fun i h => by simp [nums], _, fun i _ => .int .i64 ((isortI zs).getD i 0), hw', by simp [Sort.putCells, hcs], fun i h j hj => ?_⟩
          have hi : i < (isortI zs).length := by simpa using h
          have hj0 : j = 0 := by simp [nums] at hj; omega
          subst hj0
          have hi2 : i < zs.length := by simpa using hi
          have hcc := hcel i hi2
          refine ⟨?_, rfl, .imm ?_⟩
          · have : l.off + i < cs.size := (Array.getElem?_eq_some_iff.1 hcc).1
            have hi3 : i < (isortI zs).length := hi
            simp only [Sort.putCells, Nat.mul_one, Nat.add_zero, Array.getElem?_mapIdx]
            rw [Array.getElem?_eq_getElem this]
            simp [hi2, hi3, List.getD]
          · simp only [nums, List.getElem_map, List.getElem_cons_zero]
            simp only [List.getD, List.getElem?_eq_getElem hi, Option.getD_some]
            exact .int _ _)
        exact ⟨_, rfl, q1, .imm (.tuple [] #[] rfl (fun i h => absurd h (by simp))), q2⟩
      · cases h
    · cases h
  · cases h
end Go.Abs
