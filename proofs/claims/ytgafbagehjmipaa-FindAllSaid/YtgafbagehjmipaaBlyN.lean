/- Operations, fifth part: maps that are written and walked; builtins. -/
import Derived.Test.YtgafbagehjmipaaBlyM
namespace Bly
open Go Go.RowKit

variable {P : Program} {E : Env} {w : World} {φ : Phi} {ρ : Nat → UInt8} {B ng : Nat} {h h' : H}

/-- A statement that hands back nothing. -/
def FitsU (P : Program) (B ng : Nat) (φ : Phi) (ρ : Nat → UInt8) (w : World) (h' : H) (s : Sem Unit) : Prop :=
  ∃ w' φ', s.run P w = .ok () w' ∧ Step B φ w φ' w' ∧ WR B ng φ' ρ h' w'

theorem setNth_modify {α} (f : α → α) : ∀ (l : List α) (i : Nat) (x y : α), l[i]? = some x → y = f x → setNth l i y = l.modify i f
  | [], i, x, y, h, _ => by simp at h
  | a :: l, 0, x, y, h, e => by simp at h; subst h; subst e; simp [setNth]
  | a :: l, i+1, x, y, h, e => by
    simp at h
    simp [setNth, setNth_modify f l i x y h e]
theorem makeMap_fits (hw : WR B ng φ ρ h w) {t : TypeId} {b : Nat} (hn : h.new (.map [] 0) = some (b, h')) : Fits P B ng φ ρ w h' (.map b) (Instr.makeMap t none) := by
  obtain ⟨rfl, -⟩ := H.new_eq hn
  obtain ⟨h1, h2⟩ := hw.new (ob := .map #[] 0) (sz := 0) hn ⟨#[], World.alloc_heap_new w _, trivial⟩
  exact ⟨.map (some w.heap.size), _, _, by simp [Instr.makeMap], h2, h1, .map (Phi.put_same (φ := φ))⟩
theorem mapUpdate_fits (hE : EnvOK P E) (hw : WR B ng φ ρ h w) {t : TypeId} {m k v : AV} {m' k' v' : Value} (hm : VR φ ρ m m') (hk : VR φ ρ k k') (hv : VR φ ρ v v')
    (hb : mapUpdateA (E.tk t) m k v h = some h') : FitsU P B ng φ ρ w h' (Instr.mapUpdate t m' k' v') := by
  generalize hkt : E.tk t = kt at hb
  unfold mapUpdateA at hb
  split at hb
  · rename_i kk z r
    obtain ⟨_, d, _, hd, hkd⟩ := tk_inv hE hkt (by simp)
    obtain ⟨kty, ety, rfl, rfl, _, _, _⟩ := tkOf_map hkd
    cases hm with
    | map hp =>
      rename_i p
      split at hb
      · rename_i es c hg
        obtain ⟨p', hp', ⟨en, hh, hen⟩, _⟩ := hw.obj r _ hg
        rw [hp] at hp'; cases hp'
        have hblt : p.blk < w.heap.size := hw.lt _ _ hp
        split at hb
        · rename_i hgk hf
          cases hb
          obtain ⟨h1, ki, kn, rfl⟩ := goodKey_inv hgk
          obtain ⟨ik, hik⟩ := keyKind_one h1
          rcases findA_ok hk 0 (ik := ik) hen hf with ⟨_, h6⟩ | ⟨j, e', x, h2, _⟩
          · have hput := hw.put (o' := .map (es ++ [⟨.int ki kn, v, c⟩]) (c + 1)) (ob := .map (en.push ⟨k', v', c⟩) (c + 1)) hg rfl hp
              ⟨_, World.putObj_heap_same hblt, by simpa using hen.append (l' := [⟨.int ki kn, v, c⟩]) (m' := [⟨k', v', c⟩]) ⟨⟨hk, hv, rfl⟩, trivial⟩⟩ (fun r hr => by rw [hh] at hr; cases hr)
            refine ⟨_, φ, ?_, hput.2, hput.1⟩
            simp [Instr.mapUpdate, run_underlying hd, run_getObj_map hh, run_checkKey hik, run_findKey hik h6, run_setObj_map _ hh]
          · cases h2
        · rename_i i e hgk hf
          cases hb
          obtain ⟨h1, ki, kn, rfl⟩ := goodKey_inv hgk
          obtain ⟨ik, hik⟩ := keyKind_one h1
          rcases findA_ok hk 0 (ik := ik) hen hf with ⟨h2, _⟩ | ⟨j, e', x, h2, _, h3, h4, h5, h6, h7⟩
          · cases h2
          · cases h2
            simp only [Nat.sub_zero] at h3 h4
            have hput := hw.put (o' := .map (setNth es i ⟨.int ki kn, v, e.born⟩) c) (ob := .map (en.modify i fun e => { e with key := k', val := v' }) c) hg rfl hp
              ⟨_, World.putObj_heap_same hblt, by
                have := hen.setNth i (e := ⟨.int ki kn, v, e.born⟩) (x := ⟨k', v', x.born⟩) ⟨hk, hv, h5.born⟩
                rw [setNth_modify (fun e => { e with key := k', val := v' }) en.toList i x ⟨k', v', x.born⟩ h4 rfl] at this
                simpa using this⟩ (fun r hr => by rw [hh] at hr; cases hr)
            refine ⟨_, φ, ?_, hput.2, hput.1⟩
            have hstay : (Instr.keyThatStays k' k').run P w = .ok k' w := by
              cases hk; simp [Instr.keyThatStays, Instr.sameBits]
            have hkey : ((en[i]?).map (·.key)).getD k' = k' := by
              have : en[i]? = some x := by simpa using h4
              simp [this, h7]
            simp [Instr.mapUpdate, run_underlying hd, run_getObj_map hh, run_checkKey hik, run_findKey hik h6, hkey, hstay, run_setObj_map _ hh]
        · cases hb
      · cases hb
  · cases hb
theorem delete_fits (hE : EnvOK P E) (hw : WR B ng φ ρ h w) {t u ty : TypeId} {m k : AV} {m' k' : Value} (hm : VR φ ρ m m') (hk : VR φ ρ k k')
    (hb : deleteA (E.tk t) m k h = some h') : Fits P B ng φ ρ w h' (.tup []) (Builtin.delete_ #[t, u] ty #[m', k']) := by
  generalize hkt : E.tk t = kt at hb
  unfold deleteA at hb
  split at hb
  · rename_i kk z
    obtain ⟨_, d, _, hd, hkd⟩ := tk_inv hE hkt (by simp)
    obtain ⟨kty, ety, rfl, rfl, _, _, _⟩ := tkOf_map hkd
    cases hm
    split at hb
    · rename_i hgk
      cases hb
      obtain ⟨h1, ki, kn, rfl⟩ := goodKey_inv hgk
      obtain ⟨ik, hik⟩ := keyKind_one h1
      refine .pure (v' := .tuple #[]) hw ?_ (.tup .nil)
      simp [Builtin.delete_, run_underlying hd, run_checkKey hik]
    · cases hb
  · rename_i kk z r
    obtain ⟨_, d, _, hd, hkd⟩ := tk_inv hE hkt (by simp)
    obtain ⟨kty, ety, rfl, rfl, _, _, _⟩ := tkOf_map hkd
    cases hm with
    | map hp =>
      rename_i p
      split at hb
      · rename_i es c hg
        obtain ⟨p', hp', ⟨en, hh, hen⟩, _⟩ := hw.obj r _ hg
        rw [hp] at hp'; cases hp'
        have hblt : p.blk < w.heap.size := hw.lt _ _ hp
        split at hb
        · rename_i hgk hf
          cases hb
          obtain ⟨h1, ki, kn, rfl⟩ := goodKey_inv hgk
          obtain ⟨ik, hik⟩ := keyKind_one h1
          rcases findA_ok hk 0 (ik := ik) hen hf with ⟨_, h6⟩ | ⟨j, e', x, h2, _⟩
          · refine ⟨.tuple #[], w, φ, ?_, .refl B φ w, hw, .tup .nil⟩
            simp [Builtin.delete_, run_underlying hd, run_getObj_map hh, run_checkKey hik, run_findKey hik h6, run_setObj_map _ hh, putObj_self hh]
          · cases h2
        · rename_i i e hgk hf
          cases hb
          obtain ⟨h1, ki, kn, rfl⟩ := goodKey_inv hgk
          obtain ⟨ik, hik⟩ := keyKind_one h1
          rcases findA_ok hk 0 (ik := ik) hen hf with ⟨h2, _⟩ | ⟨j, e', x, h2, _, h3, h4, h5, h6, h7⟩
          · cases h2
          · cases h2
            simp only [Nat.sub_zero] at h3 h4
            have hput := hw.put (o' := .map (es.take i ++ es.drop (i+1)) c) (ob := .map (en.eraseIdxIfInBounds i) c) hg rfl hp
              ⟨_, World.putObj_heap_same hblt, by
                have := (hen.take i).append (hen.drop (i+1))
                have e0 : (en.eraseIdxIfInBounds i).toList = en.toList.take i ++ en.toList.drop (i+1) := by simp [List.eraseIdx_eq_take_drop_succ]
                rw [e0]; exact this⟩ (fun r hr => by rw [hh] at hr; cases hr)
            refine ⟨.tuple #[], _, φ, ?_, hput.2, hput.1, .tup .nil⟩
            simp [Builtin.delete_, run_underlying hd, run_getObj_map hh, run_checkKey hik, run_findKey hik h6, run_setObj_map _ hh]
        · cases hb
      · cases hb
  · cases hb
theorem range_fits (hE : EnvOK P E) (hw : WR B ng φ ρ h w) {t : TypeId} {kk : Nat} {z : Option AV} (hkt : E.tk t = .map kk z) {m v : AV} {m' : Value} (hm : VR φ ρ m m') (hb : rangeA m h = some (v, h')) :
    Fits P B ng φ ρ w h' v (Instr.range t m') := by
  obtain ⟨_, d, _, hd, hkd⟩ := tk_inv hE hkt (by simp)
  obtain ⟨kty, ety, rfl, rfl, _, _, _⟩ := tkOf_map hkd
  unfold rangeA at hb
  split at hb
  · cases hm
    split at hb
    · rename_i b h1 hn
      cases hb
      obtain ⟨rfl, -⟩ := H.new_eq hn
      obtain ⟨h1, h2⟩ := hw.new (ob := .mapIter none 0 #[] 0) (sz := 0) hn ⟨none, World.alloc_heap_new w _, rfl, rfl⟩
      have := VR.ptr (ρ := ρ) (off := 0) (Phi.put_same (φ := φ) (b := h.next) (p := ⟨w.heap.size, 0, 0⟩))
      exact ⟨.pointer (some ⟨w.heap.size, 0, none⟩), _, _, by simp [Instr.range, run_underlying hd], h2, h1, by simpa using this⟩
    · cases hb
  · rename_i r
    cases hm with
    | map hp =>
      rename_i p
      split at hb
      · rename_i es c hg
        obtain ⟨p', hp', ⟨en, hh, hen⟩, _⟩ := hw.obj r _ hg
        rw [hp] at hp'; cases hp'
        split at hb
        · rename_i b h1 hn
          cases hb
          obtain ⟨rfl, -⟩ := H.new_eq hn
          obtain ⟨h1, h2⟩ := hw.new (ob := .mapIter (some p.blk) c #[] c) (sz := 0) hn ⟨some p.blk, World.alloc_heap_new w _, rfl, p, Phi.put_le (hw.dom _ (Nat.le_refl _)) _ _ hp, rfl⟩
          have := VR.ptr (ρ := ρ) (off := 0) (Phi.put_same (φ := φ) (b := h.next) (p := ⟨w.heap.size, 0, 0⟩))
          exact ⟨.pointer (some ⟨w.heap.size, 0, none⟩), _, _, by simp [Instr.range, run_underlying hd, run_getObj_map hh], h2, h1, by simpa using this⟩
        · cases hb
      · cases hb
  · cases hb
theorem EntsR.filter (f : Ent → Bool) (g : MapEntry → Bool) (hfg : ∀ e x, EntR φ ρ e x → f e = g x) : ∀ {l : List Ent} {m : List MapEntry}, EntsR φ ρ l m → EntsR φ ρ (l.filter f) (m.filter g)
  | [], [], _ => trivial
  | [], _ :: _, h => h.elim
  | _ :: _, [], h => h.elim
  | e :: l, x :: m, ⟨h, t⟩ => by
    have ih := EntsR.filter f g hfg t
    rw [List.filter_cons, List.filter_cons, hfg e x h]
    split
    · exact ⟨h, ih⟩
    · exact ih
theorem EntsR.all (f : Ent → Bool) (g : MapEntry → Bool) (hfg : ∀ e x, EntR φ ρ e x → f e = g x) : ∀ {l : List Ent} {m : List MapEntry}, EntsR φ ρ l m → l.all f = m.all g
  | [], [], _ => rfl
  | [], _ :: _, h => h.elim
  | _ :: _, [], h => h.elim
  | e :: l, x :: m, ⟨h, t⟩ => by simp [hfg e x h, EntsR.all f g hfg t]
theorem run_getObj_iter {r : Nat} {mm : Option Nat} {since last : Nat} {seen : Array Nat} (h : w.heap[r]? = some (.mapIter mm since seen last)) : (getObj r).run P w = .ok (.mapIter mm since seen last) w := by simp [getObj, Sem.run, h]
theorem run_setObj_iter {r : Nat} {mm : Option Nat} {since last : Nat} {seen : Array Nat} (o : Obj) (h : w.heap[r]? = some (.mapIter mm since seen last)) : (setObj r o).run P w = .ok () (w.putObj r o) := by simp [setObj, Sem.run, h, World.putObj]
theorem next_fits (hw : WR B ng φ ρ h w) {it v : AV} {it' : Value} {ty : TypeId} (hi : VR φ ρ it it') (hb : nextA it h = some (v, h')) : Fits P B ng φ ρ w h' v (Instr.next it' false ty) := by
  unfold nextA at hb
  split at hb
  · rename_i b
    cases hi with
    | ptr hp =>
      rename_i p
      split at hb
      · rename_i since seen last hg
        cases hb
        obtain ⟨p', hp', ⟨mm, hh, hs0, hm⟩, _⟩ := hw.obj b _ hg
        rw [hp] at hp'; cases hp'
        subst hm
        refine .pure (v' := .tuple #[.bool false]) hw ?_ (.tup (.cons (.bool false) .nil))
        simp [Instr.next, hs0, run_getObj_iter hh]
      · rename_i r since seen last hg
        obtain ⟨p', hp', ⟨mm, hh, hs0, q, hq, rfl⟩, _⟩ := hw.obj b _ hg
        rw [hp] at hp'; cases hp'
        split at hb
        · rename_i es c hgr
          obtain ⟨q', hq', ⟨en, hhr, hen⟩, _⟩ := hw.obj r _ hgr
          rw [hq] at hq'; cases hq'
          split at hb
          · cases hb
          · rename_i hcond
            have e1 : es.isEmpty = en.isEmpty := by
              have := hen.length
              cases es <;> cases h2 : en.toList <;> simp_all <;> first | (rw [← Array.toList_inj]; simpa using h2) | (intro hc; simp [hc] at h2)
            have e2 : (es.all fun e => Nat.ble last e.born) = en.all fun e => decide (e.born ≥ last) := by
              rw [← Array.all_toList]
              refine hen.all _ _ (fun e x hr => ?_)
              rw [hr.born, Bool.eq_iff_iff]; simp
            have e3 : seen.isEmpty = seen.toArray.isEmpty := by simp
            have hcond' : (!seen.toArray.isEmpty && !en.isEmpty && en.all fun e => decide (e.born ≥ last)) = false := by
              rw [← e3, ← e1, ← e2]; simpa using hcond
            have hleft := hen.filter (fun e => !seen.contains e.born) (fun e => !seen.toArray.contains e.born) (fun e x hr => by rw [hr.born]; simp)
            have hleft' : (en.filter fun e => !seen.toArray.contains e.born).toList = en.toList.filter fun e => !seen.toArray.contains e.born := by simp
            split at hb
            · rename_i hnil
              cases hb
              rw [hnil] at hleft
              have hl0 : (en.filter fun e => !seen.toArray.contains e.born) = #[] := by
                rw [← Array.toList_inj, hleft']
                cases hq : en.toList.filter (fun e => !seen.toArray.contains e.born) with
                | nil => rfl
                | cons => rw [hq] at hleft; exact hleft.elim
              refine .pure (v' := .tuple #[.bool false]) hw ?_ (.tup (.cons (.bool false) .nil))
              simp only [Instr.next, hs0, Nat.zero_add, Sem.run_bind, run_getObj_iter hh, Result.andThen_ok, run_getObj_map hhr, hcond', hl0]
              simp [Question.forced]
            · rename_i e hone
              split at hb
              · rename_i hold
                have hold := blt_true.1 hold
                cases hb
                rw [hone] at hleft
                obtain ⟨x, hx⟩ : ∃ x, en.toList.filter (fun e => !seen.toArray.contains e.born) = [x] := by
                  cases hq : en.toList.filter (fun e => !seen.toArray.contains e.born) with
                  | nil => rw [hq] at hleft; exact hleft.elim
                  | cons x l =>
                    rw [hq] at hleft
                    cases l with
                    | nil => exact ⟨x, rfl⟩
                    | cons => exact hleft.2.elim
                rw [hx] at hleft
                have hl0 : (en.filter fun e => !seen.toArray.contains e.born) = #[x] := by
                  rw [← Array.toList_inj, hleft', hx]
                have hxo : x.born < since := by rw [← hleft.1.born]; exact hold
                have hxn : ¬ since ≤ x.born := by omega
                have hput := hw.put (o' := .iter (some r) since (seen ++ [e.born]) c) (ob := .mapIter (some q.blk) since (seen.toArray.push x.born) c) hg rfl hp
                  ⟨some q.blk, by rw [hleft.1.born]; simpa using World.putObj_heap_same (hw.lt _ _ hp), hs0, q, hq, rfl⟩ (fun r hr => by rw [hh] at hr; cases hr)
                refine ⟨.tuple #[.bool true, x.key, x.val], _, φ, ?_, hput.2, hput.1, ?_⟩
                · simp only [Instr.next, hs0, Nat.zero_add, Sem.run_bind, run_getObj_iter hh, Result.andThen_ok, run_getObj_map hhr, hcond', hl0]
                  simp [Question.forced, hxo, hxn, run_setObj_iter _ hh]
                · have := VR.tup (φ := φ) (ρ := ρ) (.cons (.bool true) (.cons hleft.1.key (.cons hleft.1.val .nil)))
                  simpa using this
              · cases hb
            · cases hb
        · cases hb
      · cases hb
  · cases hb

/-! ### Builtins -/
theorem len_fits (hE : EnvOK P E) (hw : WR B ng φ ρ h w) {t ty : TypeId} {x v : AV} {x' : Value} (hx : VR φ ρ x x') (hb : lenA (E.tk t) x h = some v) : Fits P B ng φ ρ w h v (Builtin.len_ #[t] ty #[x']) := by
  generalize hkt : E.tk t = kt at hb
  unfold lenA at hb
  split at hb
  · obtain ⟨_, d, _, hd, hk⟩ := tk_inv hE hkt (by simp)
    obtain ⟨rfl, _⟩ := tkOf_slice hk
    cases hx; cases hb
    exact .pure (v' := .int .i64 0) hw (by simp [Builtin.len_, run_underlying hd, goInt]) (.int _ _)
  · rename_i b off n esz'
    obtain ⟨_, d, _, hd, hk⟩ := tk_inv hE hkt (by simp)
    obtain ⟨rfl, _⟩ := tkOf_slice hk
    cases hx; cases hb
    exact .pure (v' := .int .i64 n) hw (by simp [Builtin.len_, run_underlying hd, goInt]) (.int _ _)
  · rename_i s
    obtain ⟨_, d, _, hd, hk⟩ := tk_inv hE hkt (by simp)
    have := tkOf_string hk; subst this
    cases hb
    cases hx with
    | str hs hsb =>
      rename_i s'
      have : s.length = s'.size := by have := hs.length; simpa using this
      rw [this]
      exact .pure (v' := .int .i64 s'.size) hw (by simp [Builtin.len_, run_underlying hd, goInt]) (.int _ _)
  · rename_i n e esz ea
    obtain ⟨_, d, _, hd, hk⟩ := tk_inv hE hkt (by simp)
    obtain ⟨rfl, _⟩ := tkOf_array hk
    cases hb
    exact .pure (v' := .int .i64 n) hw (by simp [Builtin.len_, run_underlying hd, goInt]) (.int _ _)
  · rename_i n
    obtain ⟨_, d, _, hd, hk⟩ := tk_inv hE hkt (by simp)
    obtain ⟨e, e', rfl, he⟩ := tkOf_ptrArr hk
    cases hb
    exact .pure (v' := .int .i64 n) hw (by simp [Builtin.len_, run_underlying hd, run_underlying he, goInt]) (.int _ _)
  · rename_i kk z
    obtain ⟨_, d, _, hd, hk⟩ := tk_inv hE hkt (by simp)
    obtain ⟨kty, ety, rfl, _⟩ := tkOf_map hk
    split at hb
    · rename_i es he
      cases hb
      obtain ⟨en, hen, hcase⟩ := entries_fits hw hx he
      have hl : es.length = en.size := by have := hen.length; simpa using this
      rw [hl]
      rcases hcase with ⟨rfl, rfl, _⟩ | ⟨r, p, c, _, _, _, rfl, hh⟩
      · exact .pure (v' := .int .i64 0) hw (by simp [Builtin.len_, run_underlying hd, goInt]) (.int _ _)
      · exact .pure (v' := .int .i64 en.size) hw (by simp [Builtin.len_, run_underlying hd, run_getObj_map hh, goInt]) (.int _ _)
    · cases hb
  · cases hb
theorem minMax_fits (hw : WR B ng φ ρ h w) {mx : Bool} {ts : Array TypeId} {ty : TypeId} {x y v : AV} {x' y' : Value} (hx : VR φ ρ x x') (hy : VR φ ρ y y') (hb : minMaxA mx x y = some v) :
    Fits P B ng φ ρ w h v (if mx then Builtin.max_ ts ty #[x', y'] else Builtin.min_ ts ty #[x', y']) := by
  unfold minMaxA at hb
  split at hb
  · rename_i k a k' b
    cases hx; cases hy; cases hb
    cases mx
    · refine .pure (v' := .int k (if b < a then b else a)) hw (by simp [Builtin.min_, Builtin.min2]) ?_
      simp only [ilt_eq]
      by_cases hlt : b < a
      · simp only [hlt, decide_true, if_true]; exact .int _ _
      · simp only [hlt, decide_false, if_false]; exact .int _ _
    · refine .pure (v' := .int k (if b > a then b else a)) hw (by simp [Builtin.max_, Builtin.max2]) ?_
      simp only [ilt_eq, gt_iff_lt]
      by_cases hlt : a < b
      · simp only [hlt, decide_true, if_true]; exact .int _ _
      · simp only [hlt, decide_false, if_false]; exact .int _ _
  · cases hb
theorem copy_fits (hE : EnvOK P E) (hw : WR B ng φ ρ h w) {t u ty : TypeId} {d s v : AV} {d' s' : Value} (hd : VR φ ρ d d') (hs : VR φ ρ s s') (hb : copyA (E.tk t) d s h = some (v, h')) :
    Fits P B ng φ ρ w h' v (Builtin.copy_ #[t, u] ty #[d', s']) := by
  generalize hkt : E.tk t = kt at hb
  unfold copyA at hb
  split at hb
  · rename_i e esz eb z b off n esz'
    obtain ⟨_, td, _, htd, hk⟩ := tk_inv hE hkt (by simp)
    obtain ⟨rfl, rfl, _, _, hkn⟩ := tkOf_slice hk
    obtain ⟨ie, _, hie, _⟩ := known_inv hkn
    split at hb
    · rename_i he1
      have he1 := Nat.eq_of_beq_eq_true he1
      subst he1
      split at hb
      · cases hd with
        | slice hp hsl =>
          rename_i p a cap
          cases hs; cases hb
          refine .pure (v' := .int .i64 0) hw ?_ (.int _ _)
          simp [Builtin.copy_, run_underlying htd, Builtin.lenOf, run_sz hie, Builtin.firstCells, storeCells, goInt]
      · rename_i b2 off2 n2 esz2
        split at hb
        · rename_i cs he2 hl
          have he2 := Nat.eq_of_beq_eq_true he2
          subst he2
          rw [cellsOf_eq hie] at hl hb
          split at hb
          · rename_i h1 hst
            cases hb
            cases hd with
            | slice hp hsl =>
              rename_i p a cap
              cases hs with
              | slice hp2 hsl2 =>
                rename_i p2 a2 cap2
                obtain ⟨vs, hrun, hvr, hok, hlen⟩ := load_cells (P := P) hw hl hp2
                obtain ⟨w', hrun2, hwr, hst'⟩ := store_cells (P := P) hw hst hp hvr (by rw [hvr.length, hlen]) hok
                refine ⟨.int .i64 (min n2 n : Nat), w', φ, ?_, hst', hwr, .int _ _⟩
                have hmin : Nat.min n2 n = min n2 n := rfl
                have r1 : (Builtin.firstCells ie.size (min n2 n) (.slice (some a2) n2 cap2)).run P w = .ok vs.toArray w := by
                  simp only [Builtin.firstCells]
                  rcases hsl2 with ⟨rfl, _⟩ | ⟨rfl, _⟩
                  · exact hrun
                  · have h0 : min 0 n * ie.size = 0 := by simp
                    rw [h0] at hlen ⊢
                    have : vs = [] := List.eq_nil_of_length_eq_zero hlen
                    subst this; rfl
                have r2 : (storeCells a vs).run P w = .ok () w' := by
                  rcases hsl with ⟨rfl, _⟩ | ⟨rfl, _⟩
                  · exact hrun2
                  · have h0 : min n2 0 * ie.size = 0 := by simp
                    rw [h0] at hlen
                    have : vs = [] := List.eq_nil_of_length_eq_zero hlen
                    subst this
                    simpa [storeCells] using hrun2
                simp [Builtin.copy_, run_underlying htd, Builtin.lenOf, run_sz hie, hmin, r1, r2, goInt]
          · cases hb
        · cases hb
      · cases hb
    · cases hb
  · rename_i e esz eb z
    obtain ⟨_, td, _, htd, hk⟩ := tk_inv hE hkt (by simp)
    obtain ⟨rfl, rfl, _, _, hkn⟩ := tkOf_slice hk
    obtain ⟨ie, _, hie, _⟩ := known_inv hkn
    cases hd
    split at hb
    · cases hs; cases hb
      refine .pure (v' := .int .i64 0) hw ?_ (.int _ _)
      simp [Builtin.copy_, run_underlying htd, Builtin.lenOf, run_sz hie, Builtin.firstCells, goInt]
    · cases hs with
      | slice hp2 hsl2 =>
        cases hb
        refine .pure (v' := .int .i64 0) hw ?_ (.int _ _)
        simp [Builtin.copy_, run_underlying htd, Builtin.lenOf, run_sz hie, Builtin.firstCells, goInt, loadCells, loadCellsFrom]
    · cases hb
  · cases hb
end Bly
