/- Reading and writing rows of cells. -/
import Derived.Test.YtgafbagehjmipaaBlyR
import Derived.Tactics
import Derived.Laws.Cells
import Derived.Laws.CopyRow
namespace Bly
open Go Go.RowKit

variable {P : Program} {w : World} {φ : Phi} {ρ : Nat → UInt8} {B ng : Nat} {h h' : H}

theorem run_ti {t : TypeId} {i : TypeInfo} (h : P.info? t = some i) : (typeInfo t).run P w = .ok i w := by
  simp [typeInfo, h]
theorem run_sz {t : TypeId} {i : TypeInfo} (h : P.info? t = some i) : (Go.sizeOf t).run P w = .ok i.size w := by
  simp [Go.sizeOf, run_ti h]
theorem run_isAgg {t : TypeId} {d : TypeDesc} (h : P.underlying t = some d) : (isAgg t).run P w = .ok (isAggD d) w := by
  simp only [isAgg, Sem.run_bind, run_underlying h, Result.andThen]
  cases d <;> rfl
theorem run_zero {t : TypeId} {i : TypeInfo} {z : Value} (h : P.info? t = some i) (hz : i.zero = some z) : (zeroValue t).run P w = .ok z w := by
  simp [zeroValue, run_ti h, hz]

theorem over_cons {α} : ∀ (l : List α) (o : Nat) (v : α) (rest : List α), o < l.length → over l o (v :: rest) = over (l.set o v) (o + 1) rest
  | [], _, _, _, h => by simp at h
  | a :: l, 0, v, rest, _ => by simp [over]
  | a :: l, o+1, v, rest, h => by
    simp only [over, List.set_cons_succ, List.cons.injEq, true_and]
    exact over_cons l o v rest (by simpa using h)
theorem over_nil {α} : ∀ (l : List α) (o : Nat), over l o [] = l
  | [], 0 => by simp [over]
  | [], o+1 => by simp [over]
  | a :: l, 0 => by simp [over]
  | a :: l, o+1 => by simp [over, over_nil l o]
theorem over_eq {α} : ∀ (l : List α) (o : Nat) (vs : List α), o ≤ l.length → over l o vs = l.take o ++ vs ++ l.drop (o + vs.length)
  | l, 0, vs, _ => by simp [over]
  | [], o+1, vs, h => by simp at h
  | a :: l, o+1, vs, h => by
    simp only [over, List.take_succ_cons, List.cons_append, List.cons.injEq, true_and]
    rw [over_eq l o vs (by simpa using h)]
    have : o + 1 + vs.length = (o + vs.length) + 1 := by omega
    rw [this, List.drop_succ_cons]
theorem oneC_cell {v : Value} : v.oneCell' = oneC v := by cases v <;> rfl

theorem setCell_putObj {b o : Nat} {c : Array Value} {e : TypeId} {fr : Nat × Nat} {v : Value} (hg : w.heap[b]? = some (.cells c e fr)) :
    w.setCell ⟨b, o, none⟩ v = w.putObj b (.cells (c.setIfInBounds o v) e fr) := by
  unfold World.setCell World.putObj
  congr 1
  apply Array.ext_getElem?
  intro i
  rw [Array.getElem?_modify]
  by_cases hi : b = i
  · subst hi
    have hlt := (Array.getElem?_eq_some_iff.1 hg).1
    rw [if_pos rfl, hg, Array.getElem?_setIfInBounds_self_of_lt hlt]
    simp
  · rw [if_neg hi, Array.getElem?_setIfInBounds_ne hi]
theorem putObj_putObj {b : Nat} {o o' : Obj} : (w.putObj b o).putObj b o' = w.putObj b o' := by
  unfold World.putObj; simp
theorem putObj_self {b : Nat} {o : Obj} (hg : w.heap[b]? = some o) : w.putObj b o = w := by
  unfold World.putObj
  have : w.heap.setIfInBounds b o = w.heap := by
    apply Array.ext_getElem?
    intro i
    by_cases hi : b = i
    · subst hi
      rw [Array.getElem?_setIfInBounds_self_of_lt (Array.getElem?_eq_some_iff.1 hg).1, hg]
    · rw [Array.getElem?_setIfInBounds_ne hi]
  rw [this]

theorem run_storeCells_put (b o : Nat) (e : TypeId) (fr : Nat × Nat) : ∀ (vs : List Value) (i : Nat) (c : Array Value) (w : World),
    w.heap[b]? = some (.cells c e fr) → (∀ i, i < c.size → ¬ (fr.1 ≤ i ∧ i < fr.2)) → o + i + vs.length ≤ c.size → (∀ v ∈ vs, oneC v = true) →
    (storeCells ⟨b, o, none⟩ vs i).run P w = .ok () (w.putObj b (.cells (over c.toList (o + i) vs).toArray e fr))
  | [], i, c, w, hg, _, _, _ => by
    simp only [storeCells, Sem.run_pure, over_nil, Array.toArray_toList]
    rw [putObj_self hg]
  | v :: rest, i, c, w, hg, hf, hl, h1 => by
    have hi : o + i < c.size := by simp at hl; omega
    have hadd : (⟨b, o, none⟩ : Addr).add i = ⟨b, o + i, none⟩ := by unfold Addr.add; split <;> simp_all
    have hcell : w.cell? ⟨b, o + i, none⟩ = some c[o + i] := by simp [World.cell?, hg, hi]
    have hfro : w.frozen? ⟨b, o + i, none⟩ = false := by
      have := hf (o + i) hi
      simp [World.frozen?, hg]
      omega
    have hblt : b < w.heap.size := (Array.getElem?_eq_some_iff.1 hg).1
    have hst : (store ((⟨b, o, none⟩ : Addr).add i) v).run P w = .ok () (w.putObj b (.cells (c.setIfInBounds (o + i) v) e fr)) := by
      rw [hadd, run_store P w _ v _ (by rw [oneC_cell]; exact h1 v (by simp)), hcell]
      simp [hfro, setCell_putObj hg]
    have ih := run_storeCells_put b o e fr rest (i + 1) (c.setIfInBounds (o + i) v) (w.putObj b (.cells (c.setIfInBounds (o + i) v) e fr))
      (World.putObj_heap_same hblt) (by simpa using hf) (by simp at hl ⊢; omega) (fun x hx => h1 x (by simp [hx]))
    simp only [storeCells, Sem.run_bind, hst, Result.andThen_ok, ih, putObj_putObj]
    rw [over_cons _ _ _ _ (by simpa using hi)]
    simp [Array.toList_setIfInBounds, Nat.add_assoc]

theorem CellsAt.cell {p : Pl} {rw : Bool} {c : Array Value} (hc : CellsAt w p rw c) (i : Nat) : w.cell? ⟨p.blk, i, none⟩ = c[i]? := by
  obtain ⟨e, fr, h1, _⟩ := hc
  simp [World.cell?, h1]
theorem addr_add (b o j : Nat) : (⟨b, o, none⟩ : Addr).add j = ⟨b, o + j, none⟩ := by unfold Addr.add; split <;> simp_all

theorem drop_take_drop {α} (l : List α) (s m o n : Nat) (h : o + n ≤ m) : (((l.drop s).take m).drop o).take n = (l.drop (s + o)).take n := by
  rw [List.drop_take, List.take_take, List.drop_drop]
  congr 1
  omega

/-- n cells of a block, from place off on. -/
theorem load_cells_any (hw : WR B ng φ ρ h w) {b off n : Nat} {cs : List AV} (hl : loadCellsA h b off n = some cs) {p : Pl} (hp : φ b = some p) :
    ∃ vs, (∀ w' : World, w'.heap = w.heap → (loadCells ⟨p.blk, p.sh + off, none⟩ n).run P w' = .ok vs.toArray w') ∧ VRs φ ρ cs vs ∧ (∀ c ∈ cs, okCell c = true) ∧ vs.length = n := by
  unfold loadCellsA at hl
  split at hl
  · rename_i cs0 m rw hg
    split at hl
    · rename_i hle
      have hle := Nat.le_of_ble_eq_true hle
      cases hl
      obtain ⟨p', c, hp', hlen, hfit, hok, hc, hr⟩ := hw.cellsAt hg
      rw [hp] at hp'; cases hp'
      have hsize : c.size = p.size := by obtain ⟨_, _, _, h2, _⟩ := hc; exact h2
      have hvs : ((c.toList.drop (p.sh + off)).take n).length = n := by simp; omega
      refine ⟨(c.toList.drop (p.sh + off)).take n, ?_, ?_, fun c hc => hok c (List.mem_of_mem_drop (List.mem_of_mem_take hc)), hvs⟩
      · intro w' hh
        have hc : CellsAt w' p rw c := hc.of_same (by rw [hh])
        have := run_loadCells_list (P := P) w' ⟨p.blk, p.sh + off, none⟩ ((c.toList.drop (p.sh + off)).take n) (fun j v hv => by
          rw [addr_add, hc.cell]
          rw [List.getElem?_take] at hv
          split at hv
          · simpa using hv
          · cases hv)
        rwa [hvs] at this
      · have := (hr.drop off).take n
        rwa [drop_take_drop _ _ _ _ _ hle] at this
    · cases hl
  · cases hl
theorem load_cells (hw : WR B ng φ ρ h w) {b off n : Nat} {cs : List AV} (hl : loadCellsA h b off n = some cs) {p : Pl} (hp : φ b = some p) :
    ∃ vs, (loadCells ⟨p.blk, p.sh + off, none⟩ n).run P w = .ok vs.toArray w ∧ VRs φ ρ cs vs ∧ (∀ c ∈ cs, okCell c = true) ∧ vs.length = n := by
  obtain ⟨vs, h1, h2⟩ := load_cells_any (P := P) hw hl hp
  exact ⟨vs, h1 w rfl, h2⟩
/-- One cell. -/
theorem load_one (hw : WR B ng φ ρ h w) {b off : Nat} {a : AV} (hl : load1A h b off = some a) {p : Pl} (hp : φ b = some p) :
    ∃ v, (load ⟨p.blk, p.sh + off, none⟩).run P w = .ok v w ∧ VR φ ρ a v := by
  unfold load1A at hl
  split at hl
  · rename_i cs0 m rw hg
    obtain ⟨p', c, hp', hlen, hfit, hok, hc, hr⟩ := hw.cellsAt hg
    rw [hp] at hp'; cases hp'
    obtain ⟨v, hv, hvr⟩ := hr.nth hl
    refine ⟨v, ?_, hvr⟩
    have : c[p.sh + off]? = some v := by
      rw [List.getElem?_take] at hv
      split at hv
      · simpa using hv
      · cases hv
    simp [hc.cell, this]
  · cases hl

/-- k cells written into a block that may be written. -/
theorem store_cells (hw : WR B ng φ ρ h w) {b off k : Nat} {vs : List AV} {us : List Value} (hs : storeCellsA h b off vs k = some h') {p : Pl} (hp : φ b = some p)
    (hv : VRs φ ρ vs us) (hk : vs.length = k) (hok : ∀ v ∈ vs, okCell v = true) :
    ∃ w', (storeCells ⟨p.blk, p.sh + off, none⟩ us).run P w = .ok () w' ∧ WR B ng φ ρ h' w' ∧ Step B φ w φ w' := by
  unfold storeCellsA at hs
  split at hs
  · rename_i cs0 m hg
    split at hs
    · rename_i hle
      have hle := Nat.le_of_ble_eq_true hle
      cases hs
      obtain ⟨p', c, hp', hlen, hfit, hok0, hc, hr⟩ := hw.cellsAt hg
      rw [hp] at hp'; cases hp'
      obtain ⟨e, fr, hheap, hsize, hfr⟩ := hc
      have hul : us.length = k := by rw [← hv.length, hk]
      have hone : ∀ v ∈ us, oneC v = true := by
        intro v hvm
        obtain ⟨i, hi, rfl⟩ := List.mem_iff_getElem.1 hvm
        have hi' : i < vs.length := by rw [hv.length]; exact hi
        obtain ⟨v', hv', hvr⟩ := hv.nth (i := i) (a := vs[i]) (by rw [nth_eq]; simp [hi'])
        rw [List.getElem?_eq_getElem hi] at hv'; cases hv'
        exact hvr.one (hok _ (List.getElem_mem hi'))
      have hrun := run_storeCells_put (P := P) p.blk (p.sh + off) e fr us 0 c w hheap (hfr rfl) (by omega) hone
      refine ⟨_, hrun, ?_⟩
      have hblt : p.blk < w.heap.size := hw.lt _ _ hp
      have hol : (over c.toList (p.sh + off) us).length = c.toList.length := over_length _ _ _ (by simp; omega)
      refine hw.put hg rfl hp ⟨?_, hfit, ?_, (over c.toList (p.sh + off) us).toArray, ?_, ?_⟩ (fun r hr => by rw [hheap] at hr; cases hr)
      · rw [over_length _ _ _ (by rw [hlen, hk]; omega), hlen]
      · intro x hx
        rcases over_mem _ _ _ _ hx with hx | hx
        · exact hok0 x hx
        · exact hok x hx
      · refine ⟨e, fr, World.putObj_heap_same hblt, ?_, ?_⟩
        · simp [hol, hsize]
        · intro _ i hi; simp only [List.size_toArray, hol] at hi; exact hfr rfl i (by simpa using hi)
      · have hov := VRs.over off hr hv
        have e2 : over ((c.toList.drop p.sh).take m) off us = ((over c.toList (p.sh + off) us).drop p.sh).take m := by
          have hcl : c.toList.length = p.size := by simp [hsize]
          rw [over_eq _ _ _ (by simp; omega), over_eq _ _ _ (by omega)]
          rw [List.take_take, List.drop_take, List.drop_drop]
          have : min off m = off := by omega
          rw [this]
          rw [show p.sh + off + us.length = p.sh + (off + us.length) by omega]
          rw [List.append_assoc, List.append_assoc, List.drop_append, List.drop_take]
          have h0 : p.sh - (List.take (p.sh + off) c.toList).length = 0 := by simp; omega
          rw [h0, List.drop_zero, show p.sh + off - p.sh = off by omega]
          rw [List.take_append, List.take_append]
          have h1 : (List.take off (List.drop p.sh c.toList)).length = off := by simp; omega
          rw [h1, List.take_take, show min m off = off by omega, List.take_of_length_le (show us.length ≤ m - off by omega)]
          rw [show m - (off + us.length) = m - off - us.length by omega]
        simpa [e2] using hov
    · cases hs
  · cases hs
end Bly
