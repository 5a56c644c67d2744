/- Slices whose elements have any number of cells: what they hold, read, cut, appended. -/
import Derived.Test.YtgafbagehjmipaaBlyL
namespace Bly
open Go

variable {E : Env} {call : Caller}

/-- v holds n elements of esz cells each: these cells. -/
structure ArAt (h : H) (v : AV) (b : Nat) (rw : Bool) (esz n : Nat) (cs : List AV) : Prop where
  off : ∃ off ds m, v = .slice b off n esz ∧ h.get b = some (.cells ds m rw) ∧ off + n * esz ≤ ds.length ∧ ds.length = m ∧ (ds.drop off).take (n * esz) = cs
  lt : b < h.next
def Ar (h : H) (v : AV) (rw : Bool) (esz n : Nat) (cs : List AV) : Prop := (v = .nils ∧ n = 0 ∧ cs = []) ∨ ∃ b, ArAt h v b rw esz n cs
section
variable {h h' : H} {v : AV} {w : Bool} {esz n e eb : Nat} {cs : List AV} {z : Option (List AV)}
theorem Ar.nil {h : H} {w : Bool} {esz : Nat} : Ar h .nils w esz 0 [] := .inl ⟨rfl, rfl, rfl⟩
theorem Ar.length (hs : Ar h v w esz n cs) : cs.length = n * esz := by
  rcases hs with ⟨_, rfl, rfl⟩ | ⟨b, ⟨off, ds, m, _, _, hle, _, rfl⟩, _⟩
  · simp
  · simp; omega
theorem Ar.len (hs : Ar h v w esz n cs) : lenA (.slice e esz eb z) v h = some (.int .i64 (.ofNat n)) := by
  rcases hs with ⟨rfl, rfl, _⟩ | ⟨b, ⟨off, ds, m, rfl, _⟩, _⟩ <;> rfl
theorem Ar.cellsV (hs : Ar h v w esz n cs) : cellsV v = some [v] := by
  rcases hs with ⟨rfl, _⟩ | ⟨b, ⟨off, ds, m, rfl, _⟩, _⟩ <;> rfl
theorem Ar.avEq (hs : Ar h v w esz n cs) : avEq v v = true := by
  rcases hs with ⟨rfl, _⟩ | ⟨b, ⟨off, ds, m, rfl, _⟩, _⟩
  · rfl
  · simp [Bly.avEq, Nat.beq_refl]
theorem ArAt.blk {b : Nat} (hs : ArAt h v b w esz n cs) : blk v = some b := by obtain ⟨⟨off, ds, m, rfl, _⟩, _⟩ := hs; rfl
theorem Ar.blk_lt (hs : Ar h v w esz n cs) {b : Nat} (hb : blk v = some b) : b < h.next := by
  rcases hs with ⟨rfl, _⟩ | ⟨b', hs⟩
  · cases hb
  · have := hs.blk; rw [hb] at this; cases this; exact hs.lt
theorem Ar.frame (hs : Ar h v w esz n cs) (hb : ∀ b, blk v = some b → h'.get b = h.get b) (hn : h.next ≤ h'.next) : Ar h' v w esz n cs := by
  rcases hs with hs | ⟨b, hs⟩
  · exact .inl hs
  · have hb := hb b hs.blk
    obtain ⟨⟨off, ds, m, h1, h2, h3⟩, hlt⟩ := hs
    exact .inr ⟨b, ⟨off, ds, m, h1, hb.trans h2, h3⟩, by omega⟩
/-- One cell of one element. -/
theorem Ar.idx (hs : Ar h v w esz n cs) {i : Nat} (hi : i < n) {k : IntKind} : ∃ b o, indexAddrA (.slice e esz eb z) v (.int k (.ofNat i)) = some (.ptr b o) ∧ ∀ j, j < esz → ∀ {ti : TI}, ti.agg = false → ∀ {x : AV}, nth cs (i * esz + j) = some x → loadA h ti (.ptr b (o + j)) = some x := by
  rcases hs with ⟨rfl, rfl, _⟩ | ⟨b, ⟨off, ds, m, rfl, hg, hle, hm, he⟩, _⟩
  · omega
  · refine ⟨b, off + i * esz, ?_, fun j hj ti ha x hx => loadA_cell ha hg ?_⟩
    · simp only [indexAddrA, natOf, blt_true.2 hi, Nat.beq_refl]
    · rw [nth_eq] at hx ⊢
      have hlt : i * esz + j < n * esz := by
        have : (i + 1) * esz ≤ n * esz := Nat.mul_le_mul_right _ hi
        rw [Nat.succ_mul] at this; omega
      rw [← he, List.getElem?_take, if_pos hlt, List.getElem?_drop] at hx
      rw [Nat.add_assoc]; exact hx
/-- A whole element, and its cells. -/
theorem Ar.idx2 (hs : Ar h v w esz n cs) {i : Nat} (hi : i < n) {k : IntKind} : ∃ b o, indexAddrA (.slice e esz eb z) v (.int k (.ofNat i)) = some (.ptr b o) ∧ ∀ {ti : TI}, ti.agg = true → ti.size = esz → loadA h ti (.ptr b o) = some (.agg ((cs.drop (i * esz)).take esz)) := by
  rcases hs with ⟨rfl, rfl, _⟩ | ⟨b, ⟨off, ds, m, rfl, hg, hle, hm, he⟩, _⟩
  · omega
  · have hmul : i * esz + esz ≤ n * esz := by
      have := Nat.mul_le_mul_right esz (show i + 1 ≤ n from hi)
      rwa [Nat.succ_mul] at this
    refine ⟨b, off + i * esz, ?_, fun {ti} ha hsz => ?_⟩
    · simp only [indexAddrA, natOf, blt_true.2 hi, Nat.beq_refl]
    · have h1 := Nat.ble_eq_true_of_le (show off + i * esz + esz ≤ m by omega)
      simp only [loadA, ha, hsz, loadCellsA, hg, h1]
      rw [← he, List.drop_take, List.take_take, List.drop_drop, Nat.min_eq_left (by omega)]
theorem Ar.hi (hs : Ar h v w esz n cs) {k' : Nat} (hk : k' ≤ n) {k : IntKind} : ∃ v', sliceA h (.slice e esz eb z) v none (some (.int k (.ofNat k'))) none = some v' ∧ Ar h v' w esz k' (cs.take (k' * esz)) ∧ blk v' = blk v := by
  rcases hs with ⟨rfl, rfl, rfl⟩ | ⟨b, ⟨off, ds, m, rfl, hg, hle, hm, he⟩, hlt⟩
  · have : k' = 0 := by omega
    subst this
    exact ⟨.nils, rfl, by simpa using Ar.nil, rfl⟩
  · have hmul : k' * esz ≤ n * esz := Nat.mul_le_mul_right _ hk
    refine ⟨.slice b (off + 0 * esz) (k' - 0) esz, ?_, .inr ⟨b, ⟨off + 0 * esz, ds, m, rfl, hg, by simp; omega, hm, ?_⟩, hlt⟩, rfl⟩
    · have h1 := Nat.ble_eq_true_of_le hk
      have h2 : Nat.ble n n = true := Nat.ble_eq_true_of_le (Nat.le_refl _)
      have h3 : Nat.ble 0 k' = true := Nat.ble_eq_true_of_le (Nat.zero_le _)
      simp only [sliceA, boundsA, optNat, natOf, h1, h2, h3, Nat.beq_refl]
      rfl
    · simp only [Nat.zero_mul, Nat.add_zero]
      rw [← he, List.take_take, Nat.min_eq_left hmul]
theorem Ar.cells {e' eb' : Nat} {z' : Option (List AV)} (hs : Ar h v w esz n cs) : appendedA (.slice e esz eb z) (.slice e' esz eb' z') esz v h = some (cs, n) := by
  rcases hs with ⟨rfl, rfl, rfl⟩ | ⟨b, ⟨off, ds, m, rfl, hg, hle, hm, he⟩, _⟩
  · rfl
  · have h1 := Nat.ble_eq_true_of_le (show off + n * esz ≤ m by omega)
    simp only [appendedA, loadCellsA, hg, h1, Nat.beq_refl, he]
theorem Ar.append {s x : AV} {wx : Bool} {m : Nat} {ds zs : List AV} (hs : Ar h s true esz n cs) (hx : Ar h x wx esz m ds) (hlt : h.next < HM) (hsz : n + m ≤ 100000) (heb : eb ≤ 65536) (he0 : 0 < esz) (hz : zs.length = esz) :
    ∃ v h', appendA (.slice e esz eb (some zs)) (.slice e esz eb (some zs)) s x h = some (v, h') ∧ Ar h' v true esz (n + m) (cs ++ ds) ∧ h.next ≤ h'.next ∧ h'.next ≤ h.next + 1 ∧ (∀ b, b < h.next → blk s ≠ some b → h'.get b = h.get b) ∧ (blk v = blk s ∨ blk v = some h.next) := by
  have h1 := hx.cells (e := e) (eb := eb) (z := some zs) (e' := e) (eb' := eb) (z' := some zs)
  have hdl := hx.length
  have hcl := hs.length
  have hb1 : Nat.ble eb 65536 = true := Nat.ble_eq_true_of_le heb
  have hb2 : Nat.blt 0 esz = true := blt_true.2 he0
  have hb3 : Nat.beq zs.length esz = true := by rw [hz]; exact Nat.beq_refl _
  have hmul : ∀ k : Nat, k ≤ 100000 → k * eb ≤ 1099511627776 := fun k hk => Nat.le_trans (Nat.mul_le_mul hk heb) (by decide)
  by_cases h0 : m = 0
  · subst h0
    have hd : ds = [] := List.length_eq_zero_iff.1 (by rw [hdl]; simp)
    subst hd
    refine ⟨s, h, ?_, by simpa using hs, Nat.le_refl _, by omega, fun _ _ _ => rfl, .inl rfl⟩
    rcases hs with ⟨rfl, _⟩ | ⟨b, ⟨off, cs, m, rfl, _⟩, _⟩
    · simp only [appendA, h1, hb1, hb2, hb3]
    · simp only [appendA, h1, hb1, hb2, hb3, Nat.beq_refl]
  · have hne : Nat.beq m 0 = false := by rw [← Bool.not_eq_true]; exact fun hb => h0 (Nat.eq_of_beq_eq_true hb)
    rcases hs with ⟨rfl, rfl, rfl⟩ | ⟨b, ⟨off, cs0, m0, rfl, hg, hle, hm, he⟩, hblt⟩
    · have g1 := Nat.ble_eq_true_of_le (show m ≤ 1099511627776 by omega)
      have g2 := Nat.ble_eq_true_of_le (hmul m (by omega))
      refine ⟨.slice h.next 0 m esz, h.alc (.cells ds (m * esz) true), ?_, .inr ⟨h.next, ⟨0, ds, m * esz, by simp, by rw [get_alc hlt, if_pos rfl], by simp [hdl], hdl, ?_⟩, by rw [next_alc]; omega⟩, by rw [next_alc]; omega, by rw [next_alc]; omega, fun b hb _ => ?_, .inr rfl⟩
      · simp only [appendA, h1, hb1, hb2, hb3, hne, g1, g2, new_alc hlt]
      · rw [List.drop_zero, List.nil_append, Nat.zero_add]; exact List.take_of_length_le (by omega)
      · rw [get_alc hlt, if_neg (by omega)]
    · have g0 := Nat.ble_eq_true_of_le (show off + n * esz ≤ m0 by omega)
      have g1 := Nat.ble_eq_true_of_le (show n + m ≤ 1099511627776 by omega)
      have g2 := Nat.ble_eq_true_of_le (hmul (n + m) hsz)
      have hlt' : (h.kill b).next < HM := hlt
      have hbm : b < HM := by omega
      refine ⟨.slice h.next 0 (n + m) esz, (h.kill b).alc (.cells ((cs0.drop off).take (n * esz) ++ ds) ((n + m) * esz) true), ?_,
        .inr ⟨h.next, ⟨0, (cs0.drop off).take (n * esz) ++ ds, (n + m) * esz, rfl, by rw [get_alc hlt', if_pos next_kill.symm], ?_, ?_, ?_⟩, by rw [next_alc, next_kill]; omega⟩, by rw [next_alc, next_kill]; omega, by rw [next_alc, next_kill]; omega, fun b' hb hne' => ?_, .inr rfl⟩
      · simp only [appendA, h1, hb1, hb2, hb3, hne, hg, g0, g1, g2, Nat.beq_refl, new_alc hlt', next_kill]
      · rw [he, List.length_append, hcl, hdl, Nat.add_mul]; omega
      · rw [he, List.length_append, hcl, hdl, Nat.add_mul]
      · rw [he, List.drop_zero]; exact List.take_of_length_le (by rw [List.length_append, hcl, hdl, Nat.add_mul]; omega)
      · have : b' ≠ b := fun e => hne' (by rw [e]; rfl)
        rw [get_alc hlt', if_neg (by rw [next_kill]; omega), H.get_kill hbm, if_neg this]
end
end Bly
