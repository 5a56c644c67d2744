/- 'baileylaw23.FindAll': the law answers true at every call. No condition. -/
import Derived.Test.YtgafbagehjmipaaGp
namespace Go.Proofs.Ytgafbagehjmipaa
open Go.ChangeShapes Go.WideShapes Go.ChangeAt Go.RowKit
open Bly

/-- The lists that came in: 20 of them are opened, 10 values of each. -/
theorem open_lists {H : Type} {enc : TypeId × Value → H} {W : World} {hd : Bool} {V : Value} {x : DataW H × List MemPlace} {fuel : Nat} (id id0 : Nat) (h : DataW.trod enc Try.prog W 0 allSp hd fuel 23 [V] = some x) :
    ∃ (obj : Objs) (av : AV) (OL : List (List Att)) (os : List AV), Pc W id (id+221) obj ∧ okCell av = true ∧ (∀ φ ρ, Ext φ obj → (V ≠ .slice none 0 0 → ∃ q, φ id0 = some q) → VR φ ρ av V) ∧ ∀ h : Bly.H, Has h obj → (V ≠ .slice none 0 0 → Stand h id0) → OssM h av OL os := by
  rcases Go.Deep.open_slice1 und23 cells24 h with ⟨hcs, _⟩ | ⟨a, len, cap, m, n, V', D, Pl', hcs, _, hl, _, hm, _, hc⟩
  · have : V = .slice none 0 0 := by simpa using hcs
    subst this
    exact ⟨fun _ => none, .nils, [], [], Pc.none, rfl, fun _ _ _ _ => .nils, fun _ _ _ => ⟨rfl, Ar.nil, fun i a v _ h => by simp at h⟩⟩
  · have : V = .slice (some a) len cap := by simpa using hcs
    subst this
    have hm : m = cap := by simpa using hm
    subst hm
    by_cases hc0 : m = 0
    · subst hc0
      have hl0 : len = 0 := by omega
      subst hl0
      refine ⟨fun _ => none, .slice id0 0 0 1, [], [], Pc.none, rfl, fun φ ρ _ hf => let ⟨_, hq⟩ := hf (by simp); .slice hq (.inr ⟨rfl, rfl⟩), fun h _ hf => ?_⟩
      obtain ⟨ds, g1, g2⟩ := hf (by simp)
      exact ⟨rfl, .inr ⟨id0, ⟨0, ds, ds.length, rfl, g1, by simp, rfl, by simp⟩, g2⟩, fun i a v _ h => by simp at h⟩
    · obtain ⟨c, e, fr, hh, hsp, hsz, hblt, hrow⟩ := row_of (V := V') (n := m) (by omega) (fun i hi => (hc i hi).1)
      obtain ⟨G, hG⟩ := Go.Deep.choose_lt (α := Objs × AV × List Att × List AV) (n := m) (p := fun i q => Pc W (id+1+11*i) (id+1+11*i+1+10) q.1 ∧ okCell q.2.1 = true ∧ (∀ φ ρ, Ext φ q.1 → (V' i ≠ .slice none 0 0 → ∃ r, φ id = some r) → VR φ ρ q.2.1 (V' i)) ∧ ∀ h : Bly.H, Has h q.1 → (V' i ≠ .slice none 0 0 → Stand h id) → AtsM 10 h q.2.1 false false q.2.2.1 q.2.2.2) (fun i hi => by
        obtain ⟨obj, av, L, vs, p1, p2, p3, p4⟩ := open_atts (id+1+11*i) id 10 (hc i hi).2
        exact ⟨(obj, av, L, vs), p1, p2, p3, p4⟩)
      obtain ⟨OL, eL⟩ : ∃ OL : List (List Att), OL = (List.range len).map fun i => if i < 20 then (G i).2.2.1 else [] := ⟨_, rfl⟩
      obtain ⟨os, ev⟩ : ∃ os : List AV, os = (List.range len).map fun i => if i < 20 then (G i).2.1 else .any := ⟨_, rfl⟩
      have hLl : OL.length = len := by rw [eL]; simp
      have hvl : os.length = len := by rw [ev]; simp
      have hLi : ∀ i, i < len → OL[i]? = some (if i < 20 then (G i).2.2.1 else []) := fun i hi => by rw [eL]; simp [hi]
      have hvi : ∀ i, i < len → os[i]? = some (if i < 20 then (G i).2.1 else .any) := fun i hi => by rw [ev]; simp [hi]
      obtain ⟨obj, eo⟩ : ∃ obj : Objs, obj = fun b => if b = id then some (.cells os len false, ⟨a.block, a.off, c.size⟩) else if id < b ∧ b < id + 221 ∧ (b - id - 1) / 11 < len then (G ((b - id - 1) / 11)).1 b else none := ⟨_, rfl⟩
      have hid : obj id = some (.cells os len false, ⟨a.block, a.off, c.size⟩) := by rw [eo]; simp
      have hsub : ∀ i, i < len → i < 20 → ∀ b o p, (G i).1 b = some (o, p) → obj b = some (o, p) := fun i hi hil b o p hb => by
        have hd := (hG i (by omega)).1.dom b o p hb
        have : (b - id - 1) / 11 = i := by omega
        rw [eo]
        simp only
        rw [if_neg (by omega), if_pos (by omega), this]; exact hb
      have hinv : ∀ b o p, obj b = some (o, p) → (b = id ∧ o = .cells os len false ∧ p = ⟨a.block, a.off, c.size⟩) ∨ ∃ i, i < len ∧ i < 20 ∧ id + 1 + 11 * i ≤ b ∧ b < id + 1 + 11 * i + 11 ∧ (G i).1 b = some (o, p) := fun b o p hb => by
        rw [eo] at hb
        simp only at hb
        split at hb
        · cases hb; rename_i e; exact .inl ⟨e, rfl, rfl⟩
        · split at hb
          · exact .inr ⟨(b - id - 1) / 11, by omega, by omega, by omega, by omega, hb⟩
          · cases hb
      have hext : ∀ φ, Ext φ obj → ∀ i, i < len → i < 20 → Ext φ (G i).1 := fun φ hφ i hi hil b o p hb => hφ b o p (hsub i hi hil b o p hb)
      have hvrs : ∀ φ ρ, Ext φ obj → VRs φ ρ os ((List.range len).map V') := fun φ ρ hφ => VRs.of_get (by simp [hvl]) fun k x v h1 h2 => by
        have hk : k < len := by have := (List.getElem?_eq_some_iff.1 h2).1; simpa using this
        rw [hvi k hk] at h1
        simp [hk] at h2
        subst h2
        cases h1
        split
        · exact (hG k (by omega)).2.2.1 φ ρ (hext φ hφ _ hk (by assumption)) (fun _ => ⟨_, hφ id _ _ hid⟩)
        · exact .any (slice_one und24 (hc k (by omega)).2)
      refine ⟨obj, .slice id 0 len 1, OL, os, ⟨fun b o p hb => ?_, fun φ ρ hφ b o p hb => ?_⟩, rfl, fun φ ρ hφ _ => ?_, fun h hh _ => ?_⟩
      · rcases hinv b o p hb with ⟨h1, _⟩ | ⟨i, h1, h2, h3, _⟩ <;> omega
      · rcases hinv b o p hb with ⟨_, rfl, rfl⟩ | ⟨i, h1, h2, _, _, h4⟩
        · refine ⟨pc_row (V := V') hh (by omega) hvl (fun x hx => ?_) (hrow len hl) hvrs φ ρ hφ, rfl, hblt⟩
          obtain ⟨k, hk⟩ := List.getElem?_of_mem hx
          have hkl : k < len := by rw [← hvl]; exact (List.getElem?_eq_some_iff.1 hk).1
          rw [hvi k hkl] at hk
          cases hk
          split
          · exact (hG k (by omega)).2.1
          · rfl
        · exact (hG i (by omega)).1.ok φ ρ (hext φ hφ i h1 h2) b o p h4
      · refine .slice (hφ id _ _ hid) (.inl ⟨?_, hl, by simp; omega⟩)
        cases a; simp at hsp; simp [hsp]
      · obtain ⟨g1, g2⟩ := hh id _ _ hid
        have hstand : Stand h id := ⟨os, by rw [hvl]; exact g1, g2⟩
        refine ⟨by omega, .inr ⟨id, ⟨0, os, len, by rw [hLl], g1, by rw [hLl, hvl]; omega, hvl, by rw [List.drop_zero, hLl]; exact List.take_of_length_le (by omega)⟩, g2⟩, fun i L u hil h1 h2 => ?_⟩
        have hi : i < len := by rw [← hLl]; exact (List.getElem?_eq_some_iff.1 h1).1
        rw [hLi i hi, if_pos hil] at h1
        rw [hvi i hi, if_pos hil] at h2
        cases h1; cases h2
        exact ⟨_, (hG i (by omega)).2.2.2 h (fun b o p hb => hh b o p (hsub i hi hil b o p hb)) (fun _ => hstand)⟩
theorem und22 : Try.prog.underlying 22 = some (.slice 3) := by kernel_rfl
/-- The integers that came in. -/
theorem open_i64s {H : Type} {enc : TypeId × Value → H} {W : World} {hd : Bool} {V : Value} {x : DataW H × List MemPlace} {fuel : Nat} (id id0 : Nat) (h : DataW.trod enc Try.prog W 0 allSp hd fuel 22 [V] = some x) :
    ∃ (obj : Objs) (av : AV) (zs : List Int), Pc W id (id+1) obj ∧ okCell av = true ∧ (∀ φ ρ, Ext φ obj → (V ≠ .slice none 0 0 → ∃ q, φ id0 = some q) → VR φ ρ av V) ∧ ∀ h : Bly.H, Has h obj → (V ≠ .slice none 0 0 → Stand h id0) → Sl h av false zs := by
  rcases Go.Deep.open_slice1 und22 cells3' h with ⟨hcs, _⟩ | ⟨a, len, cap, m, n, V', D, Pl', hcs, _, hl, _, hm, _, hc⟩
  · have : V = .slice none 0 0 := by simpa using hcs
    subst this
    exact ⟨fun _ => none, .nils, [], Pc.none, rfl, fun _ _ _ _ => .nils, fun _ _ _ => Sl.nil⟩
  · have : V = .slice (some a) len cap := by simpa using hcs
    subst this
    have hm : m = cap := by simpa using hm
    subst hm
    by_cases hc0 : m = 0
    · subst hc0
      have hl0 : len = 0 := by omega
      subst hl0
      refine ⟨fun _ => none, .slice id0 0 0 1, [], Pc.none, rfl, fun φ ρ _ hf => let ⟨_, hq⟩ := hf (by simp); .slice hq (.inr ⟨rfl, rfl⟩), fun h _ hf => let ⟨ds, g1, g2⟩ := hf (by simp); .inr ⟨id0, ⟨0, ds, ds.length, rfl, g1, by simp, rfl, by simp⟩, g2⟩⟩
    · obtain ⟨c, e, fr, hh, hsp, hsz, hblt, hrow⟩ := row_of (V := V') (n := m) (by omega) (fun i hi => (hc i hi).1)
      have hz : ∀ i, i < m → V' i = .int .i64 (intOf (V' i)) := fun i hi => by
        obtain ⟨z, e1, _, _⟩ := DataW.trod_int und3 (hc i hi).2
        have : V' i = .int .i64 z := by simpa using e1
        rw [this]; rfl
      obtain ⟨zs, ezs⟩ : ∃ zs : List Int, zs = (List.range len).map fun i => intOf (V' i) := ⟨_, rfl⟩
      have hbl : zs.length = len := by rw [ezs]; simp
      have hvrs : ∀ φ ρ, VRs φ ρ (zs.map (.int .i64)) ((List.range len).map V') := fun φ ρ => VRs.of_get (by simp [hbl]) fun i a v h1 h2 => by
        have hi : i < len := by have := (List.getElem?_eq_some_iff.1 h2).1; simpa using this
        rw [ezs] at h1
        simp [hi] at h1 h2
        subst h1; subst h2
        rw [hz i (by omega)]
        exact .int _ _
      obtain ⟨obj, eo⟩ : ∃ obj : Objs, obj = fun b => if b = id then some (.cells (zs.map (.int .i64)) len false, ⟨a.block, a.off, c.size⟩) else none := ⟨_, rfl⟩
      have hid : obj id = some (.cells (zs.map (.int .i64)) len false, ⟨a.block, a.off, c.size⟩) := by rw [eo]; simp
      have hinv : ∀ b o p, obj b = some (o, p) → b = id ∧ o = .cells (zs.map (.int .i64)) len false ∧ p = ⟨a.block, a.off, c.size⟩ := fun b o p hb => by
        rw [eo] at hb
        simp only at hb
        split at hb
        · cases hb; rename_i e; exact ⟨e, rfl, rfl⟩
        · cases hb
      refine ⟨obj, .slice id 0 len 1, zs, ⟨fun b o p hb => by have := (hinv b o p hb).1; omega, fun φ ρ hφ b o p hb => ?_⟩, rfl, fun φ ρ hφ _ => ?_, fun h hh _ => ?_⟩
      · obtain ⟨_, rfl, rfl⟩ := hinv b o p hb
        exact ⟨pc_row (V := V') hh (by omega) (by simp [hbl]) (fun x hx => by obtain ⟨b, _, rfl⟩ := List.mem_map.1 hx; rfl) (hrow len hl) (fun φ ρ _ => hvrs φ ρ) φ ρ hφ, rfl, hblt⟩
      · refine .slice (hφ id _ _ hid) (.inl ⟨?_, hl, by simp; omega⟩)
        cases a; simp at hsp; simp [hsp]
      · obtain ⟨g1, g2⟩ := hh id _ _ hid
        exact .inr ⟨id, ⟨0, zs.map (.int .i64), len, by rw [hbl], g1, by simp [hbl], by simp [hbl], by rw [List.drop_zero, hbl]; exact List.take_of_length_le (by simp [hbl])⟩, g2⟩

/-! ### The heap -/
def foldT (obj : Objs) : Nat → T AObj
  | 0 => .e
  | n+1 => T.set HD (foldT obj n) n ((obj n).map (·.1))
def heapOf (obj : Objs) (n : Nat) : Bly.H := ⟨foldT obj n, n⟩
theorem foldT_get (obj : Objs) : ∀ (n k : Nat), n ≤ HM → k < HM → (foldT obj n).get HD k = if k < n then (obj k).map (·.1) else none
  | 0, k, _, _ => rfl
  | n+1, k, hn, hk => by
    rw [foldT, T.get_set HD _ _ _ _ (show n < HM by omega) hk, foldT_get obj n k (by omega) hk]
    by_cases e : k = n
    · subst e; rw [if_pos rfl, if_pos (by omega)]
    · rw [if_neg e]
      by_cases h : k < n
      · rw [if_pos h, if_pos (by omega)]
      · rw [if_neg h, if_neg (by omega)]
theorem heapOf_get {obj : Objs} {n : Nat} (hn : n ≤ HM) (k : Nat) : (heapOf obj n).get k = if k < n then (obj k).map (·.1) else none := by
  unfold Bly.H.get
  by_cases hk : k < HM
  · rw [blt_true.2 hk]
    exact foldT_get obj n k hn hk
  · rw [blt_false.2 hk, if_neg (by omega)]
def phiOf (obj : Objs) (n : Nat) : Phi := fun b => if b < n then (obj b).map (·.2) else none
theorem wr_of {W : World} {obj : Objs} {n : Nat} {ρ : Nat → UInt8} (hn : n ≤ HM) (hp : Pc W 0 n obj) : Ext (phiOf obj n) obj ∧ Has (heapOf obj n) obj ∧ WR W.heap.size 0 (phiOf obj n) ρ (heapOf obj n) W := by
  have hext : Ext (phiOf obj n) obj := fun b o p hb => by
    have := (hp.dom b o p hb).2
    unfold phiOf; rw [if_pos this, hb]; rfl
  have hhas : Has (heapOf obj n) obj := fun b o p hb => by
    have := (hp.dom b o p hb).2
    rw [heapOf_get hn, if_pos this, hb]; exact ⟨rfl, this⟩
  have hobj : ∀ b o, (heapOf obj n).get b = some o → ∃ p, obj b = some (o, p) := fun b o hb => by
    rw [heapOf_get hn] at hb
    split at hb
    · obtain ⟨⟨o', p⟩, e1, e2⟩ := Option.map_eq_some_iff.1 hb
      simp only at e2; subst e2
      exact ⟨p, e1⟩
    · cases hb
  refine ⟨hext, hhas, fun b o hb => ?_, fun b b' o o' p p' hb _ _ _ hr => ?_, fun b hb => ?_, fun b p hb => ?_, Nat.le_refl _, fun g hg => by omega⟩
  · obtain ⟨p, e⟩ := hobj b o hb
    obtain ⟨h1, h2, _⟩ := hp.ok _ ρ hext b o p e
    exact ⟨p, hext b o p e, h1, fun h => by rw [h2] at h; cases h⟩
  · obtain ⟨q, e⟩ := hobj b o hb
    obtain ⟨_, h2, _⟩ := hp.ok _ ρ hext b o q e
    rw [h2] at hr; cases hr
  · have hb : n ≤ b := hb
    unfold phiOf; rw [if_neg (by omega)]
  · unfold phiOf at hb
    split at hb
    · obtain ⟨⟨o', p'⟩, e1, e2⟩ := Option.map_eq_some_iff.1 hb
      simp only at e2; subst e2
      exact (hp.ok _ ρ hext b o' p' e1).2.2
    · cases hb
/-- Two pieces side by side. -/
theorem Pc.both {W : World} {a b c : Nat} {x y : Objs} (hab : a ≤ b) (hbc : b ≤ c) (hx : Pc W a b x) (hy : Pc W b c y) : ∃ z : Objs, Pc W a c z ∧ (∀ k o p, x k = some (o, p) → z k = some (o, p)) ∧ ∀ k o p, y k = some (o, p) → z k = some (o, p) := by
  obtain ⟨z, ez⟩ : ∃ z : Objs, z = fun k => if k < b then x k else y k := ⟨_, rfl⟩
  have zx : ∀ k, k < b → z k = x k := fun k hk => by rw [ez]; simp only; rw [if_pos hk]
  have zy : ∀ k, ¬ k < b → z k = y k := fun k hk => by rw [ez]; simp only; rw [if_neg hk]
  have gx : ∀ k o p, x k = some (o, p) → z k = some (o, p) := fun k o p hk => by rw [zx k (hx.dom k o p hk).2]; exact hk
  have gy : ∀ k o p, y k = some (o, p) → z k = some (o, p) := fun k o p hk => by rw [zy k (by have := (hy.dom k o p hk).1; omega)]; exact hk
  refine ⟨z, ⟨fun k o p hk => ?_, fun φ ρ hφ k o p hk => ?_⟩, gx, gy⟩
  · by_cases h : k < b
    · rw [zx k h] at hk; have := hx.dom k o p hk; omega
    · rw [zy k h] at hk; have := hy.dom k o p hk; omega
  · by_cases h : k < b
    · rw [zx k h] at hk; exact hx.ok φ ρ (fun b o p hb => hφ b o p (gx b o p hb)) k o p hk
    · rw [zy k h] at hk; exact hy.ok φ ρ (fun b o p hb => hφ b o p (gy b o p hb)) k o p hk
theorem top_cells {W : World} {t e : TypeId} {a : Addr} {len cap base : Nat} (ht : Try.prog.underlying t = some (.slice e)) (hok : Value.okWide Try.prog W .any base t (.slice (some a) len cap)) : ∃ c e' fr, W.heap[a.block]? = some (.cells c e' fr) := by
  simp only [Value.okWide, ht, Cell.okWide, Cell.ok, World.has] at hok
  obtain ⟨_, _, _, hsp, row, cells, hsh, _⟩ := hok
  unfold World.shape? at hsh
  split at hsh
  · rename_i c e' fr hh; exact ⟨c, e', fr, hh⟩
  · cases hsh
theorem Try.own : ownKnob Try.prog.godebug = none := by kernel_rfl
theorem Try.laidOut : laidOutB Try.prog = true := by kernel_rfl
theorem Try.mixed : Try.prog.follows .mixedOrders = true := by kernel_rfl
theorem Try.noNumB : (Try.prog.funcs.toList.all fun fn => !(fn.name == "runtime.NumGoroutine")) = true := by kernel_rfl
theorem Try.noNum : Bly.NoNum Try.prog := fun f fn hf => by
  have := List.all_eq_true.1 Try.noNumB fn (by have := Array.mem_of_getElem? hf; simpa using this)
  simpa using this
theorem Try.types4096 : Try.prog.types.size ≤ 4096 := of_decide_eq_true (by kernel_rfl)
theorem Try.funcs4096 : Try.prog.funcs.size ≤ 4096 := of_decide_eq_true (by kernel_rfl)
theorem fun6 : Try.prog.funcs[6]? = some Try.f6 := by kernel_rfl
theorem name6 : (Try.f6.name == "runtime.NumGoroutine") = false := by kernel_rfl
theorem body6 : ∃ c, Try.f6.body = some c := ⟨_, rfl⟩
set_option maxRecDepth 100000 in
theorem begun_run : Bly.isTrue (Bly.callA (Bly.mkEnv Try.prog 0) Bly.noOrc 10000 100 (.fn 6 []) [] Bly.H0) = true := by kernel_rfl
theorem o6_ok {W : World} {ρ : Nat → UInt8} : OrcOK Try.prog W.heap.size 0 ρ O6 := by
  obtain ⟨c, hc⟩ := body6
  exact orcOf_ok (enters_ok fun6 name6 hc) (fun w => Bly.closed_ok Try.types4096 Try.funcs4096 Try.mixed Try.noNum ρ w Bly.noOrc_ok begun_run)

theorem findAll_any {H : Type} {enc : TypeId × Value → H} {W : World} {v0 v1 v2 : Value} {d0 d1 d2 : DataW H} {p0 p1 p2 : List MemPlace} {user : Bool} {most : Int}
    (k0 : Value.okWide Try.prog W .any 0 22 v0) (k1 : Value.okWide Try.prog W .any 0 23 v1) (k2 : Value.okWide Try.prog W .any 0 24 v2)
    (h0 : DataW.Trod enc Try.prog W 0 (fun _ => true) true 22 v0 d0 p0) (h1 : DataW.Trod enc Try.prog W 0 (fun _ => true) true 23 v1 d1 p1) (h2 : DataW.Trod enc Try.prog W 0 (fun _ => true) true 24 v2 d2 p2) :
    Calls Try.prog 3 #[v0, v1, v2, .bool user, .int .i64 most] W fun e W' => e = .returned (.bool true) ∧ Below W.heap.size W W' := by
  obtain ⟨b0, l0, c0, rfl⟩ := okWide_slice und22 k0
  obtain ⟨b1, l1, c1, rfl⟩ := okWide_slice und23 k1
  obtain ⟨b2, l2, c2, rfl⟩ := okWide_slice und24 k2
  obtain ⟨f0, h0⟩ := h0
  obtain ⟨f1, h1⟩ := h1
  obtain ⟨f2, h2⟩ := h2
  have h0 : DataW.trod enc Try.prog W 0 allSp true f0 22 [.slice b0 l0 c0] = some (d0, p0) := h0
  have h1 : DataW.trod enc Try.prog W 0 allSp true f1 23 [.slice b1 l1 c1] = some (d1, p1) := h1
  have h2 : DataW.trod enc Try.prog W 0 allSp true f2 24 [.slice b2 l2 c2] = some (d2, p2) := h2
  obtain ⟨x0, a0, zs, pc0, _, vr0, sl0⟩ := open_i64s 0 226 h0
  obtain ⟨x1, a1, OL, os, pc1, _, vr1, os1⟩ := open_lists 1 226 h1
  obtain ⟨x2, a2, L, us, pc2, _, vr2, at2⟩ := open_atts 222 226 3 h2
  -- a block that stands in where a slice has no room
  obtain ⟨x3, pc3, st3⟩ : ∃ x3 : Objs, Pc W 226 227 x3 ∧ ∀ (V : Value), (V = .slice b0 l0 c0 ∨ V = .slice b1 l1 c1 ∨ V = .slice b2 l2 c2) → V ≠ .slice none 0 0 → ∃ p, x3 226 = some (.cells [] 0 false, p) := by
    by_cases hb : ∃ (b : Nat) (c : Array Value) (e : TypeId) (fr : Nat × Nat), W.heap[b]? = some (.cells c e fr)
    · obtain ⟨b, c, e, fr, hh⟩ := hb
      have hblt : b < W.heap.size := (Array.getElem?_eq_some_iff.1 hh).1
      obtain ⟨x3, e3⟩ : ∃ x3 : Objs, x3 = fun k => if k = 226 then some (.cells [] 0 false, ⟨b, 0, c.size⟩) else none := ⟨_, rfl⟩
      have hinv : ∀ k o p, x3 k = some (o, p) → k = 226 ∧ o = .cells [] 0 false ∧ p = ⟨b, 0, c.size⟩ := fun k o p hk => by
        rw [e3] at hk
        simp only at hk
        split at hk
        · cases hk; rename_i e; exact ⟨e, rfl, rfl⟩
        · cases hk
      refine ⟨x3, ⟨fun k o p hk => by have := (hinv k o p hk).1; omega, fun φ ρ hφ k o p hk => ?_⟩, fun _ _ _ => ⟨_, by rw [e3]; rfl⟩⟩
      obtain ⟨_, rfl, rfl⟩ := hinv k o p hk
      exact ⟨⟨rfl, by simp, fun x hx => (by cases hx), c, ⟨e, fr, hh, rfl, fun h => (by cases h)⟩, .nil⟩, rfl, hblt⟩
    · refine ⟨fun _ => none, Pc.none, fun V hV hne => ?_⟩
      have nil : ∀ {t e : TypeId} {a : Option Addr} {l c : Nat} {x : DataW H × List MemPlace} {f : Nat}, Try.prog.underlying t = some (.slice e) → Value.okWide Try.prog W .any 0 t (.slice a l c) → DataW.trod enc Try.prog W 0 allSp true f t [.slice a l c] = some x → Value.slice a l c = .slice none 0 0 := by
        intro t e a l c x f ht hok htr
        cases a with
        | some a => obtain ⟨c', e', fr, hh⟩ := top_cells ht hok; exact absurd ⟨_, c', e', fr, hh⟩ hb
        | none =>
          rcases Go.Deep.open_slice ht htr with ⟨hcs, _⟩ | ⟨_, _, _, _, _, _, _, hcs, _⟩
          · simpa using hcs
          · simp at hcs
      rcases hV with rfl | rfl | rfl
      · exact absurd (nil und22 k0 h0) hne
      · exact absurd (nil und23 k1 h1) hne
      · exact absurd (nil und24 k2 h2) hne
  obtain ⟨y1, py1, y1a, y1b⟩ := Pc.both (by omega) (by omega) pc0 pc1
  obtain ⟨y2, py2, y2a, y2b⟩ := Pc.both (by omega) (by omega) py1 pc2
  obtain ⟨y3, py3, y3a, y3b⟩ := Pc.both (by omega) (by omega) py2 pc3
  have hHM : 227 ≤ HM := by decide
  obtain ⟨hext, hhas, hw⟩ := wr_of (ρ := fun _ => 0) hHM py3
  have e0 : Ext (phiOf y3 227) x0 := fun b o p hb => hext b o p (y3a b o p (y2a b o p (y1a b o p hb)))
  have e1 : Ext (phiOf y3 227) x1 := fun b o p hb => hext b o p (y3a b o p (y2a b o p (y1b b o p hb)))
  have e2 : Ext (phiOf y3 227) x2 := fun b o p hb => hext b o p (y3a b o p (y2b b o p hb))
  have g0 : Has (heapOf y3 227) x0 := fun b o p hb => hhas b o p (y3a b o p (y2a b o p (y1a b o p hb)))
  have g1 : Has (heapOf y3 227) x1 := fun b o p hb => hhas b o p (y3a b o p (y2a b o p (y1b b o p hb)))
  have g2 : Has (heapOf y3 227) x2 := fun b o p hb => hhas b o p (y3a b o p (y2b b o p hb))
  have sf : ∀ V : Value, (V = .slice b0 l0 c0 ∨ V = .slice b1 l1 c1 ∨ V = .slice b2 l2 c2) → V ≠ .slice none 0 0 → ∃ q, phiOf y3 227 226 = some q := fun V hV hne => by
    obtain ⟨p, hp⟩ := st3 V hV hne
    exact ⟨p, hext _ _ _ (y3b _ _ _ hp)⟩
  have sd : ∀ V : Value, (V = .slice b0 l0 c0 ∨ V = .slice b1 l1 c1 ∨ V = .slice b2 l2 c2) → V ≠ .slice none 0 0 → Stand (heapOf y3 227) 226 := fun V hV hne => by
    obtain ⟨p, hp⟩ := st3 V hV hne
    obtain ⟨q1, q2⟩ := hhas _ _ _ (y3b _ _ _ hp)
    exact ⟨[], q1, q2⟩
  obtain ⟨v', h', hrun, rfl⟩ := findAll_eq (user := user) (most := most) (sl0 _ g0 (sd _ (.inl rfl))) (os1 _ g1 (sd _ (.inr (.inl rfl)))) (at2 _ g2 (sd _ (.inr (.inr rfl)))) (by show 227 ≤ 1000; omega)
  have hargs : VRs (phiOf y3 227) (fun _ => 0) [a0, a1, a2, .bool user, .int .i64 most] [.slice b0 l0 c0, .slice b1 l1 c1, .slice b2 l2 c2, .bool user, .int .i64 most] :=
    .cons (vr0 _ _ e0 (sf _ (.inl rfl))) (.cons (vr1 _ _ e1 (sf _ (.inr (.inl rfl)))) (.cons (vr2 _ _ e2 (sf _ (.inr (.inr rfl)))) (.cons (.bool _) (.cons (.int _ _) .nil))))
  have hc := Bly.call_ok (E := E0) (ng := 0) (B := W.heap.size) (ρ := fun _ => 0) Try.mixed (Bly.env_ok (ng := 0) Try.types4096 Try.funcs4096) Try.noNum rfl o6_ok (fuel := 10000) 21
  refine (callsIn_wide (n := 0)).1 (CallsIn.mono (hc.fn hrun hw hargs).2 ?_)
  rintro e w' ⟨v', φ', rfl, hst, _, hv⟩
  cases hv
  exact ⟨rfl, hst.low⟩

set_option maxRecDepth 100000 in
theorem findAll_lifted (os : Os) (started : os.Started) (H : Type) (enc : TypeId × Value → H) :
    ReturnsInHanded {} Try.checked os 3 .any (Rows.findAllSpec.pre6 enc Try.prog Try.f3 Rows.findAllRow.domain false) (Rows.findAllSpec.post enc Try.prog Try.f3 false true false false) := by
  refine returnsInHanded_of_change (C := Try.checked) Try.own started (by kernel_rfl) Try.func3
    (ChangeSpec.witness6 (enc := enc) (C := Try.checked) false ⟨#[], #[.slice none 0 0, .slice none 0 0, .slice none 0 0, .bool false, .int .i64 0], []⟩ 8 (by kernel_rfl) (by kernel_rfl) (by kernel_rfl) (by kernel_rfl)) ?_
  intro W base args ds gs before hval0 hW hcnd _
  have hval : ∀ (j : Nat) t v, Try.f3.params[j]? = some t → args[j]? = some v → Value.okWide Try.prog W .any base t v := hval0
  have hW' := hW
  have hlt := hW.lt
  obtain ⟨p, q, hA0, hV, rfl, hfz, hnd⟩ := hW
  have hA : DataW.TrodAll enc Try.prog W 0 (fun _ => true) true Try.f3.params.toList args.toList ds p := hA0
  rw [Try.params3] at hA hval
  obtain ⟨v0, vs1, d0, ds1, p0, q1, ea, rfl, rfl, h0, hA1⟩ := trodAll_cons hA
  obtain ⟨v1, vs2, d1, ds2, p1, q2, rfl, rfl, rfl, h1, hA2⟩ := trodAll_cons hA1
  obtain ⟨v2, vs3, d2, ds3, p2, q3, rfl, rfl, rfl, h2, hA3⟩ := trodAll_cons hA2
  obtain ⟨v3, vs4, d3, ds4, p3, q4, rfl, rfl, rfl, h3, hA4⟩ := trodAll_cons hA3
  obtain ⟨v4, vs5, d4, ds5, p4, q5, rfl, rfl, rfl, h4, hA5⟩ := trodAll_cons hA4
  obtain ⟨rfl, rfl, rfl⟩ := trodAll_nil hA5
  have hargs : args = #[v0, v1, v2, v3, v4] := by cases args; simp_all
  subst hargs
  obtain ⟨rfl, rfl⟩ := trodVars_none hV
  obtain ⟨user, rfl, rfl, rfl⟩ := open_bool Try.underlying4 (hval 3 4 v3 rfl rfl) h3
  obtain ⟨most, rfl, rfl, rfl, wm⟩ := open_int und3 (hval 4 3 v4 rfl rfl) h4
  refine (findAll_any (user := user) (most := most) (hval 0 22 v0 rfl rfl) (hval 1 23 v1 rfl rfl) (hval 2 24 v2 rfl rfl) h0 h1 h2).mono fun e W' ⟨he, hb⟩ => ?_
  subst he
  refine ⟨_, rfl, Bly.post_of_below (pa := p0 ++ (p1 ++ (p2 ++ ([] ++ ([] ++ []))))) (pv := []) hW' hb (fun _ _ _ => trodAll_mk1 (shut_bool Try.underlying4 true)) (fun sp hsp => ?_) (fun _ _ => rfl) rfl
    (ok_one (by kernel_rfl) rfl (okWide_bool_mk Try.underlying4 true))⟩
  rw [Try.params3]
  refine ⟨p0, _, WideElems.Trod_stays Try.laidOut (by kernel_rfl) (of_decide_eq_true (by kernel_rfl)) h0 (fun x hx => hb.same (hlt x (by simp [hx]))) (fun x hx => hsp x (by simp [hx])), ?_, rfl⟩
  refine ⟨p1, _, WideElems.Trod_stays Try.laidOut (by kernel_rfl) (of_decide_eq_true (by kernel_rfl)) h1 (fun x hx => hb.same (hlt x (by simp [hx]))) (fun x hx => hsp x (by simp [hx])), ?_, rfl⟩
  refine ⟨p2, _, WideElems.Trod_stays Try.laidOut (by kernel_rfl) (of_decide_eq_true (by kernel_rfl)) h2 (fun x hx => hb.same (hlt x (by simp [hx]))) (fun x hx => hsp x (by simp [hx])), ?_, rfl⟩
  exact ⟨[], _, shut_bool Try.underlying4 user, ⟨[], _, shut_int und3 wm, rfl, rfl⟩, rfl⟩
theorem findAll_holds : Rows.FindAllSaid :=
  OpenClaim.holds_of_wide 3 Try.f3 rfl rfl rfl rfl rfl rfl rfl ⟨rfl, rfl, rfl, rfl, rfl⟩ rfl rfl rfl rfl rfl (by kernel_rfl) Try.func3 (by kernel_rfl)
    (of_decide_eq_true (by kernel_rfl)) (by unfold Func.isWrapper; first | (rw [if_pos (by decide +kernel)]; kernel_rfl) | (rw [if_neg (by decide +kernel)]; exact ⟨rfl, rfl⟩))
    (fun os started H enc _ => findAll_lifted os started H enc)
#print axioms findAll_holds
end Go.Proofs.Ytgafbagehjmipaa
