/- A region that draws its order, by rules: with guards, and with one property that all its heaps have. -/
import Derived.Test.YtgafbagehjmipaaBlyI
namespace Bly
open Go Go.RowKit

variable {E : Env} {call : Caller} {fid fuel n : Nat}

structure RecG where
  o : Oper
  s : SL
  run : Bool
  v : AV
  h : H
/-- Is the guard told, and is the operation wanted? -/
def gotG (all : List Oper) (n : Nat) (s : SL) (o : Oper) (run : Bool) : Prop :=
  match o.guard with
  | none => run = true
  | some (j, w) => ∃ t b, dstOf all j = some t ∧ Nat.blt t n = true ∧ lk s t = some (.bool b) ∧ run = (b == w)
theorem gotG_ok {all : List Oper} {s : SL} {o : Oper} {run : Bool} {tm : Tm} (hg : gotG all n s o run) (h1 : tm.n = n) (h2 : Holds tm s) : guardTold all o tm = true ∧ wantA all o tm = run := by
  unfold gotG at hg
  cases he : o.guard with
  | none => rw [he] at hg; exact ⟨by unfold guardTold; rw [he], by unfold wantA; rw [he]; exact hg.symm⟩
  | some p =>
    obtain ⟨j, w⟩ := p
    rw [he] at hg
    obtain ⟨t, b, g1, g2, g3, g4⟩ := hg
    obtain ⟨q1, q2⟩ := guard_known he g1 h1 h2 g2 g3
    exact ⟨q1, q2.trans g4.symm⟩
/-- cv: the conversions give no slices. -/
def quietC (cv : Bool) (op : Op) : Bool := quiet op || (cv && match op with | .convert _ _ _ => true | _ => false)
/-- Every heap at which a turn may come has St. -/
def sS (E : Env) (call : Caller) (n : Nat) (cv : Bool) (all : List Oper) (St : H → Prop) : SL → List Oper → H → (SL → H → Prop) → Prop
  | s, [], h, K => K s h
  | s, o :: l, h, K => St h ∧ fitsD o.dst n = true ∧
    ((∃ v h1, gotG all n s o true ∧ knownL s o.op.operands.toList = true ∧ opA E call (rdL E s) o h = some (v, h1) ∧
        (quietC cv o.op = true → quietV o.op v = true) ∧ (quietV o.op v = true → avEq v v = true ∧ ∀ h', St h' → ∃ h'', opA E call (rdL E s) o h' = some (v, h'')) ∧ sS E call n cv all St (updL s o.dst v) l h1 K) ∨
     (gotG all n s o false ∧ sS E call n cv all St (updL s o.dst (.tup [])) l h K))
section
variable {cv : Bool} {all : List Oper} {St : H → Prop} {s : SL} {o : Oper} {l : List Oper} {h h1 : H} {v : AV} {K : SL → H → Prop}
theorem quietC_of {op : Op} (h : quietC cv op = true) : quietC true op = true := by
  unfold quietC at h ⊢
  cases cv with
  | true => exact h
  | false => simp at h; rw [h]; rfl
theorem quietC_ofV {op : Op} (h : quietV op v = true) : quietC true op = true := by
  unfold quietC; unfold quietV at h
  cases hq : quiet op with
  | true => rfl
  | false => rw [hq] at h; cases op <;> first | rfl | (simp at h)
theorem sS_nil (hk : K s h) : sS E call n cv all St s [] h K := hk
theorem sS_loud (hst : St h) (hd : fitsD o.dst n = true) (hg : gotG all n s o true) (hk : knownL s o.op.operands.toList = true) (hq : quietC true o.op = false) (hs : opA E call (rdL E s) o h = some (v, h1)) (hn : sS E call n cv all St (updL s o.dst v) l h1 K) :
    sS E call n cv all St s (o :: l) h K := ⟨hst, hd, .inl ⟨v, h1, hg, hk, hs, fun h => (by rw [quietC_of h] at hq; cases hq), fun h => (by rw [quietC_ofV h] at hq; cases hq), hn⟩⟩
theorem quiet_V (h : quiet o.op = true) : quietV o.op v = true := by unfold quietV; rw [h]; rfl
theorem sS_quiet (hst : St h) (hd : fitsD o.dst n = true) (hg : gotG all n s o true) (hk : knownL s o.op.operands.toList = true) (hq : quietV o.op v = true) (he : avEq v v = true) (hs : ∀ h', St h' → opA E call (rdL E s) o h' = some (v, h')) (hn : sS E call n cv all St (updL s o.dst v) l h K) :
    sS E call n cv all St s (o :: l) h K := ⟨hst, hd, .inl ⟨v, h, hg, hk, hs h hst, fun _ => hq, fun _ => ⟨he, fun h' g => ⟨h', hs h' g⟩⟩, hn⟩⟩
theorem sS_skip (hst : St h) (hd : fitsD o.dst n = true) (hg : gotG all n s o false) (hn : sS E call n cv all St (updL s o.dst (.tup [])) l h K) : sS E call n cv all St s (o :: l) h K := ⟨hst, hd, .inr ⟨hg, hn⟩⟩
end
/-- A record and what is known of it. -/
structure LikeG (E : Env) (call : Caller) (cv : Bool) (St : H → Prop) (o : Oper) (r : Rec) : Prop where
  o : r.o = o
  h : St r.h
  c : r.run = true → quietC cv r.o.op = true → quietV r.o.op r.v = true
  q : r.run = true → quietV r.o.op r.v = true → avEq r.v r.v = true ∧ ∀ h', St h' → ∃ h'', opA E call (rd E r.tm) r.o h' = some (r.v, h'')
def LikesG (E : Env) (call : Caller) (cv : Bool) (St : H → Prop) : List Oper → List Rec → Prop
  | [], [] => True
  | o :: l, r :: m => LikeG E call cv St o r ∧ LikesG E call cv St l m
  | _, _ => False
theorem LikesG.get {cv : Bool} {St : H → Prop} : ∀ {l m}, LikesG E call cv St l m → m.length = l.length ∧ ∀ {i : Nat} {r : Rec}, nth m i = some r → ∃ o, nth l i = some o ∧ LikeG E call cv St o r
  | [], [], _ => ⟨rfl, fun h => by simp [nth] at h⟩
  | o :: l, r :: m, ⟨h1, h2⟩ => by
    obtain ⟨g1, g2⟩ := LikesG.get h2
    refine ⟨by simp [g1], fun {i r'} h => ?_⟩
    cases i with
    | zero => simp [nth] at h; subst h; exact ⟨o, rfl, h1⟩
    | succ i => simp [nth] at h; exact g2 h
  | [], _ :: _, h => h.elim
  | _ :: _, [], h => h.elim
theorem sS_recs {cv : Bool} (hle : n ≤ 512) {all : List Oper} {St : H → Prop} : ∀ (l : List Oper) {s : SL} {h : H} {K : SL → H → Prop} {tm : Tm}, sS E call n cv all St s l h K → tm.n = n → Holds tm s →
    ∃ rs tm' s' h', recsA E call all l tm h = some (rs, tm', h') ∧ LikesG E call cv St l rs ∧ tm'.n = n ∧ Holds tm' s' ∧ K s' h' ∧ (∀ o, l.getLast? = some o → o.guard = none → ∃ r, rs.getLast? = some r ∧ r.run = true)
  | [], s, h, K, tm, hk, h1, h2 => ⟨[], tm, s, h, rfl, trivial, h1, h2, hk, fun o ho => by cases ho⟩
  | o :: l, s, h, K, tm, ⟨hst, hd, hk⟩, h1, h2 => by
    rcases hk with ⟨v, hm, hg, hkn, hs, hqc, hq, hn⟩ | ⟨hg, hn⟩
    · obtain ⟨q1, q2⟩ := gotG_ok hg h1 h2
      obtain ⟨rs, tm', s', h', g1, g2, g3, g4, g5, g6⟩ := sS_recs hle (all := all) l hn (tm := tm.putO o.dst v) (by rw [tm_n_putO]; exact h1) (h2.upd h1 hle hd v)
      have hop : ∀ h', opA E call (rd E tm) o h' = opA E call (rdL E s) o h' := fun h' => opA_congr (fun x hx => rdL_ok h2 hkn x (by simpa using hx))
      have hst' : stepA E call all o tm h = some (v, hm) := by unfold stepA; rw [q1, q2]; show opA E call (rd E tm) o h = _; rw [hop]; exact hs
      refine ⟨⟨o, tm, wantA all o tm, v, h⟩ :: rs, tm', s', h', by simp only [recsA, hst', g1], ⟨⟨rfl, hst, fun _ => hqc, fun _ hqq => ?_⟩, g2⟩, g3, g4, g5, fun o' ho' hgn => ?_⟩
      · obtain ⟨e1, e2⟩ := hq hqq
        exact ⟨e1, fun h' hs' => by obtain ⟨h'', e⟩ := e2 h' hs'; exact ⟨h'', (hop h').trans e⟩⟩
      · cases l with
        | nil =>
          have : rs = [] := by
            cases rs with
            | nil => rfl
            | cons r rs => exact g2.elim
          subst this
          exact ⟨_, rfl, q2⟩
        | cons o2 l =>
          obtain ⟨r, e1, e2⟩ := g6 o' (by simpa using ho') hgn
          cases rs with
          | nil => cases e1
          | cons r2 rs => exact ⟨r, by simpa using e1, e2⟩
    · obtain ⟨q1, q2⟩ := gotG_ok hg h1 h2
      obtain ⟨rs, tm', s', h', g1, g2, g3, g4, g5, g6⟩ := sS_recs hle (all := all) l hn (tm := tm.putO o.dst (.tup [])) (by rw [tm_n_putO]; exact h1) (h2.upd h1 hle hd _)
      have hst' : stepA E call all o tm h = some (.tup [], h) := by unfold stepA; rw [q1, q2]
      refine ⟨⟨o, tm, wantA all o tm, .tup [], h⟩ :: rs, tm', s', h', by simp only [recsA, hst', g1], ⟨⟨rfl, hst, fun hr => absurd (hr.symm.trans q2) (by decide), fun hr => absurd (hr.symm.trans q2) (by decide)⟩, g2⟩, g3, g4, g5, fun o' ho' hgn => ?_⟩
      cases l with
      | nil =>
        simp at ho'
        subst ho'
        unfold gotG at hg
        rw [hgn] at hg
        cases hg
      | cons o2 l =>
        obtain ⟨r, e1, e2⟩ := g6 o' (by simpa using ho') hgn
        cases rs with
        | nil => cases e1
        | cons r2 rs => exact ⟨r, by simpa using e1, e2⟩
/-- Loud ones follow one another, whether they run or not. -/
def loudT (cv : Bool) (l : List Oper) (b : List Nat) : Bool :=
  (List.range l.length).all fun j => (List.range j).all fun i => match nth l i, nth l j with
    | some oi, some oj => quietC cv oi.op || quietC cv oj.op || bitOf b i j
    | _, _ => false
/-- The last one is loud, has no guard, and comes behind each other one. -/
def lastT (l : List Oper) (b : List Nat) : Bool :=
  (match l.getLast? with | some o => !quietC true o.op && (match o.guard with | none => true | _ => false) | none => false) && (List.range (l.length - 1)).all fun i => bitOf b i (l.length - 1)
theorem likesG_loud {cv : Bool} {St : H → Prop} {l : List Oper} {rs : List Rec} (hl : LikesG E call cv St l rs) {b : List Nat} (h : loudT cv l b = true) : loudChain rs b = true := by
  obtain ⟨hlen, hget⟩ := hl.get
  refine List.all_eq_true.2 fun j hj => List.all_eq_true.2 fun i hi => ?_
  have hj' : j < rs.length := by simpa using hj
  have hi' : i < j := by simpa using hi
  have h1 := List.all_eq_true.1 (List.all_eq_true.1 h j (by simpa [← hlen] using hj')) i (by simpa using hi')
  obtain ⟨ri, e1⟩ := nth_some rs i (by omega)
  obtain ⟨rj, e2⟩ := nth_some rs j hj'
  obtain ⟨oi, f1, l1⟩ := hget e1
  obtain ⟨oj, f2, l2⟩ := hget e2
  simp only [f1, f2] at h1
  simp only [e1, e2, Rec.loud, l1.o, l2.o]
  simp only [Bool.or_eq_true] at h1 ⊢
  rcases h1 with (h1 | h1) | h1
  · refine .inl (.inl ?_)
    cases hr : ri.run with
    | false => rfl
    | true => have hc := l1.c hr (by rw [l1.o]; exact h1); rw [l1.o] at hc; rw [hc]; rfl
  · refine .inl (.inr ?_)
    cases hr : rj.run with
    | false => rfl
    | true => have hc := l2.c hr (by rw [l2.o]; exact h1); rw [l2.o] at hc; rw [hc]; rfl
  · exact .inr h1
theorem likesG_fits {cv : Bool} {St : H → Prop} {l : List Oper} {rs : List Rec} (hl : LikesG E call cv St l rs) {b : List Nat} {hend : H}
    (h : St hend ∨ (lastT l b = true ∧ ∃ r, rs.getLast? = some r ∧ r.run = true)) : quietFits E call rs b hend = true := by
  obtain ⟨hlen, hget⟩ := hl.get
  refine List.all_eq_true.2 fun i hi => ?_
  have hi' : i < rs.length := by simpa using hi
  obtain ⟨r, e⟩ := nth_some rs i hi'
  obtain ⟨q, f, lk⟩ := hget e
  simp only [e]
  cases hq : quietV r.o.op r.v with
  | false =>
    cases hr : r.run with
    | false => simp
    | true => simp [Rec.loud, hr, hq]
  | true =>
    cases hr : r.run with
    | false => simp
    | true =>
      obtain ⟨h1, h2⟩ := lk.q hr hq
      simp only [Bool.or_eq_true]
      refine .inr (List.all_eq_true.2 fun k hk => ?_)
      have hk' : k ≤ rs.length := by have : k < rs.length + 1 := by simpa using hk
                                     omega
      have good : ∀ hx, St hx → (match opA E call (rd E r.tm) r.o hx with | some (v, _) => avEq v r.v | none => false) = true := fun hx hs => by
        obtain ⟨h'', e⟩ := h2 hx hs
        rw [e]; exact h1
      simp only [Bool.or_eq_true]
      by_cases hkl : k < rs.length
      · obtain ⟨rk, ek⟩ := nth_some rs k hkl
        obtain ⟨_, _, lk2⟩ := hget ek
        refine .inr ?_
        simp only [ek]
        exact good _ lk2.h
      · have hkn : nth rs k = none := nth_none rs k (by omega)
        rcases h with h | ⟨hlast, rl, hrl, hrun⟩
        · refine .inr ?_
          simp only [hkn]
          exact good _ h
        · refine .inl (List.any_eq_true.2 ⟨rs.length - 1, by simp; omega, ?_⟩)
          have hnl : nth rs (rs.length - 1) = some rl := by rw [nth_eq, ← List.getLast?_eq_getElem?]; exact hrl
          obtain ⟨ol, fl, ll⟩ := hget hnl
          have hol : l.getLast? = some ol := by rw [List.getLast?_eq_getElem?, ← nth_eq, ← hlen]; exact fl
          unfold lastT at hlast
          rw [hol] at hlast
          simp only [Bool.and_eq_true] at hlast
          have hlq : quietV ol.op rl.v = false := by
            cases hv : quietV ol.op rl.v with
            | false => rfl
            | true => have h0 := hlast.1.1; rw [quietC_ofV hv] at h0; cases h0
          have hloud : rl.loud = true := by unfold Rec.loud; rw [hrun, ll.o, hlq]; rfl
          simp only [hnl, hloud, Bool.true_and]
          have hne : i < l.length - 1 ∨ i = rs.length - 1 := by omega
          rcases hne with hne | hne
          · have := List.all_eq_true.1 hlast.2 i (by simpa using hne)
            rw [Bool.or_eq_true]; refine .inr ?_
            rw [Bool.and_eq_true]
            exact ⟨blt_true.2 (by omega), by rw [hlen]; exact this⟩
          · rw [hne] at e
            rw [hnl] at e
            cases e
            rw [ll.o, hlq] at hq
            cases hq
theorem sC_drawA (cv : Bool) (St : H → Prop) {id : Nat} {ops : Array Oper} {s : SL} {h : H} {Q : AEx → Tm → H → Prop} (hle : n ≤ 512) (h1 : edgesBack ops.toList = true) (h2 : orderedAll ops.toList (befores ops.toList []) = true) (h3 : loudT cv ops.toList (befores ops.toList []) = true)
    (hk : sS E call n cv ops.toList St s ops.toList h (fun s' h' => St h' ∧ sQ n s' h' (Q .normal))) : sC E call fid fuel n s (.region id ops true) h Q := by
  intro tm g1 g2
  obtain ⟨rs, tm', s', h', e1, e2, e3, e4, ⟨e5, e6⟩, _⟩ := sS_recs hle _ hk g1 g2
  refine ⟨.normal, tm', h', ?_, e6 tm' e3 e4⟩
  have hd : drawA E call ops.toList tm h = some (tm', h') := by
    unfold drawA
    rw [e1]
    simp only [h1, h2, likesG_loud e2 h3, likesG_fits e2 (.inl e5)]
  simp only [codeA, hd]
theorem sC_drawB (cv : Bool) (St : H → Prop) {id : Nat} {ops : Array Oper} {s : SL} {h : H} {Q : AEx → Tm → H → Prop} (hle : n ≤ 512) (h1 : edgesBack ops.toList = true) (h2 : orderedAll ops.toList (befores ops.toList []) = true) (h3 : loudT cv ops.toList (befores ops.toList []) = true)
    (h4 : lastT ops.toList (befores ops.toList []) = true)
    (hk : sS E call n cv ops.toList St s ops.toList h (fun s' h' => sQ n s' h' (Q .normal))) : sC E call fid fuel n s (.region id ops true) h Q := by
  intro tm g1 g2
  obtain ⟨rs, tm', s', h', e1, e2, e3, e4, e6, e7⟩ := sS_recs hle _ hk g1 g2
  refine ⟨.normal, tm', h', ?_, e6 tm' e3 e4⟩
  have hl : ∃ r, rs.getLast? = some r ∧ r.run = true := by
    have h4' := h4
    unfold lastT at h4'
    cases ho : ops.toList.getLast? with
    | none => rw [ho] at h4'; simp at h4'
    | some o =>
      rw [ho] at h4'
      simp only [Bool.and_eq_true] at h4'
      exact e7 o ho (by
        have := h4'.1.2
        cases hg : o.guard with
        | none => rfl
        | some p => rw [hg] at this; cases this)
  have hd : drawA E call ops.toList tm h = some (tm', h') := by
    unfold drawA
    rw [e1]
    simp only [h1, h2, likesG_loud e2 h3, likesG_fits e2 (.inr ⟨h4, hl⟩)]
  simp only [codeA, hd]
/-- Operations that read no heap. -/
def pureOp : Op → Bool
  | .move _ | .assign _ | .pick .. | .nilCheck _ | .binOp .. | .unOp .. | .fieldAddr .. | .field .. | .indexAddr .. | .index .. | .extract .. | .build .. => true
  | _ => false
theorem pure_any {r : Operand → AV} {o : Oper} {h h1 : H} {v : AV} (hp : pureOp o.op = true) (hs : opA E call r o h = some (v, h1)) (h' : H) : opA E call r o h' = some (v, h') := by
  have vv : ∀ {x : Option AV}, valA x h = some (v, h1) → valA x h' = some (v, h') := fun {x} hx => by
    cases x with
    | none => cases hx
    | some x => cases hx; rfl
  unfold opA at hs ⊢
  cases ho : o.op <;> rw [ho] at hp <;> simp only [pureOp] at hp <;> (try cases hp) <;> simp only [ho] at hs ⊢
  case move => cases hs; rfl
  case assign => cases hs; rfl
  case pick => split at hs <;> (try (cases hs)) <;> rfl
  case nilCheck =>
    unfold nilCheckA at hs ⊢
    split at hs <;> (try (cases hs)) <;> rfl
  case extract => split at hs <;> first | exact vv hs | cases hs
  case build => split at hs <;> first | exact vv hs | cases hs
  all_goals exact vv hs
theorem pure_quiet {op : Op} (hp : pureOp op = true) : quiet op = true := by
  cases op <;> simp only [pureOp] at hp <;> first | (cases hp; done) | rfl
section
variable {cv : Bool} {all : List Oper} {St : H → Prop} {s : SL} {o : Oper} {l : List Oper} {h h1 : H} {v : AV} {K : SL → H → Prop}
theorem sS_pure (hst : St h) (hd : fitsD o.dst n = true) (hg : gotG all n s o true) (hk : knownL s o.op.operands.toList = true) (hp : pureOp o.op = true) (hs : opA E call (rdL E s) o h = some (v, h1)) (he : avEq v v = true) (hn : sS E call n cv all St (updL s o.dst v) l h K) :
    sS E call n cv all St s (o :: l) h K := sS_quiet hst hd hg hk (quiet_V (pure_quiet hp)) he (fun h' _ => pure_any hp hs h') hn
theorem gotG_none (hg : o.guard = none) : gotG all n s o true := by unfold gotG; rw [hg]
theorem gotG_some {j t : Nat} {w b run : Bool} (hg : o.guard = some (j, w)) (hj : dstOf all j = some t) (ht : Nat.blt t n = true) (hl : lk s t = some (.bool b)) (hr : (b == w) = run) : gotG all n s o run := by
  unfold gotG; rw [hg]; exact ⟨t, b, hj, ht, hl, hr.symm⟩
end
/-! ### What is known of fewer temporaries -/
def subL : SL → SL → Prop
  | [], _ => True
  | (d, u) :: s', s => lk s d = some u ∧ subL s' s
theorem subL_weak : ∀ {s' s : SL}, subL s' s → ∀ t u, lk s' t = some u → lk s t = some u
  | [], _, _ => fun t v h => by cases h
  | (d, u) :: s', s, h => fun t v hl => by
    simp only [lk] at hl
    split at hl
    · rename_i hb
      have := Nat.eq_of_beq_eq_true hb
      subst this
      cases hl
      exact h.1
    · exact subL_weak h.2 t v hl
theorem Holds.sub {tm : Tm} {s s' : SL} (hs : Holds tm s) (hw : subL s' s) : Holds tm s' := fun t v hl => hs t v (subL_weak hw t v hl)
/-- What holds behind a piece of code: it went on, at this heap, these temporaries are known. -/
def cutQ (n : Nat) (s' : SL) (h' : H) (ex : AEx) (tm : Tm) (hx : H) : Prop := ex = .normal ∧ hx = h' ∧ tm.n = n ∧ Holds tm s'
theorem sC_cut {s s' : SL} {c : Code} {h h' : H} {Q : AEx → Tm → H → Prop} (hk : sC E call fid fuel n s c h (cutQ n s' h')) (hn : sQ n s' h' (Q .normal)) : sC E call fid fuel n s c h Q :=
  sC_mono hk fun ex tm hx ⟨e1, e2, e3, e4⟩ => by subst e1; subst e2; exact hn tm e3 e4
theorem sQ_cut {s s' : SL} {h : H} (hw : subL s' s) : sQ n s h (cutQ n s' h .normal) := fun _ h1 h2 => ⟨rfl, rfl, h1, h2.sub hw⟩
theorem sC_sub {s s' : SL} {c : Code} {h : H} {Q : AEx → Tm → H → Prop} (hw : subL s' s) (hn : sC E call fid fuel n s' c h Q) : sC E call fid fuel n s c h Q := sC_weak (subL_weak hw) hn
theorem sQ_sub {s s' : SL} {h : H} {Q : Tm → H → Prop} (hw : subL s' s) (hn : sQ n s' h Q) : sQ n s h Q := fun tm h1 h2 => hn tm h1 (h2.sub hw)
theorem avEq_strs : ∀ (l : List AV), (∀ x ∈ l, avEq x x = true) → avsEq l l = true
  | [], _ => rfl
  | a :: l, h => by simp only [avsEq, h a (by simp), avEq_strs l (fun x hx => h x (by simp [hx])), Bool.and_self]
theorem avEq_str {l : List AV} (h : ∀ x ∈ l, avEq x x = true) : avEq (.str l) (.str l) = true := by simp only [avEq]; exact avEq_strs l h
/-! ### Calls, with contracts that stand in for functions -/
theorem call_eqO {orc : Orc} {n f : Nat} {cap args : List AV} {h : H} {F : Func} {c : Code} {R : AV → H → Prop} (ho : orc f args h = none) (hf : E.func f = some F) (hb : F.body = some c) (h1 : Nat.ble F.ntmps 512 = true) (h2 : Nat.ble args.length F.ntmps = true)
    (hk : wpC E (callA E orc fuel n) f fuel c ⟨mkTm args 0 .e, F.ntmps⟩ h (endQ E F.results.toList R)) : ∃ v h', callA E orc fuel (n+1) (.fn f cap) args h = some (v, h') ∧ R v h' := by
  obtain ⟨ex, tm', h', h3, h4, vs, h5, h6⟩ := hk
  refine ⟨_, h', ?_, h6⟩
  rcases h4 with rfl | rfl <;> simp only [callA, ho, hf, hb, h1, h2, h3, h5]
theorem s_callO {orc : Orc} {f : Nat} {cap args : List AV} {h : H} {F : Func} {c : Code} {R : AV → H → Prop} (ho : orc f args h = none) (hf : E.func f = some F) (hb : F.body = some c) (h1 : Nat.ble F.ntmps 512 = true) (h2 : Nat.ble args.length F.ntmps = true)
    (hk : sC E (callA E orc fuel n) f fuel F.ntmps (startL args 0) c h (endQ E F.results.toList R)) : ∃ v h', callA E orc fuel (n+1) (.fn f cap) args h = some (v, h') ∧ R v h' :=
  call_eqO ho hf hb h1 h2 (hk _ rfl (start_holds (Nat.le_of_ble_eq_true h1) (Nat.le_of_ble_eq_true h2)))
theorem yield_eqO {orc : Orc} {n l : Nat} {args : List AV} {h : H} {r : LoopR} {R : AV → H → Prop} (hl : h.get l = some (.loop r)) (ha : args.length = r.params.length)
    (hk : wpC E (callA E orc fuel n) r.fid fuel r.assign (putAll r.params args r.tm) h (seqQ (fun tm h => ∃ r1, h.get l = some (.loop r1) ∧ r1.state = .ready ∧
      wpC E (callA E orc fuel n) r.fid fuel r.body tm (h.put l (.loop { r1 with state := .busy })) (fun ex _ h => ∃ r2, h.get l = some (.loop r2) ∧
        match jumpOf ex with
        | none => R (.bool true) (h.put l (.loop { r2 with state := .ready, pending := none }))
        | some ex => R (.bool false) (h.put l (.loop { r2 with state := .done, pending := some ex })))) (fun _ _ _ => False))) :
    ∃ v h', callA E orc fuel (n+1) (.yld l) args h = some (v, h') ∧ R v h' := by
  obtain ⟨ex, tm1, h1, g1, g2⟩ := hk
  cases ex with
  | normal =>
    obtain ⟨r1, g3, g4, ex2, tm2, h2, g5, r2, g6, g7⟩ := g2
    have hlen : Nat.beq args.length r.params.length = true := by rw [ha]; exact Nat.beq_refl _
    cases hj : jumpOf ex2 with
    | none =>
      rw [hj] at g7
      exact ⟨_, _, by simp only [callA, hl, roundA, hlen, g1, g3, g4, g5, g6, hj], g7⟩
    | some ex3 =>
      rw [hj] at g7
      exact ⟨_, _, by simp only [callA, hl, roundA, hlen, g1, g3, g4, g5, g6, hj], g7⟩
  | _ => exact g2.elim
/-- A result that lies in a cell. -/
theorem resA_cell {tm : Tm} {s : SL} (hs : Holds tm s) {h : H} {a t : Nat} {p v : AV} {ti : TI} (hl : lk s a = some p) (ht : E.ti t = some ti) (hv : loadA h ti p = some v) : resA E tm h [.cell a t] = some [v] := by
  simp only [resA, ht, hs a p hl, hv]

/-! ### Functions that are closed: what a run over the empty heap says stands in for them -/
theorem got_of_below {B ng : Nat} {φ : Phi} {ρ : Nat → UInt8} {h : H} {w w' : World} (hw : WR B ng φ ρ h w) (hb : Below w.heap.size w w') : Got B ng φ ρ w h (.bool true) (.returned (.bool true)) w' := by
  have hsame : ∀ k, k < w.heap.size → w'.heap[k]? = w.heap[k]? := hb.block
  refine ⟨_, φ, rfl, ⟨.refl φ, fun b p hp => .inl ⟨b, p, hp, rfl⟩, hb.mono hw.low, fun k hk _ => hsame k hk, fun k r hk => ⟨r, (hsame k (Array.getElem?_eq_some_iff.1 hk).1).trans hk⟩⟩, ⟨fun b o hg => let ⟨p, hp, ho, hr⟩ := hw.obj b o hg; ⟨p, hp, ho.keep (.refl φ) (hsame _ (hw.lt _ _ hp)), hr⟩, hw.inj, hw.dom, fun b p hp => Nat.lt_of_lt_of_le (hw.lt b p hp) hb.size, Nat.le_trans hw.low hb.size, hw.glob⟩, .bool true⟩
/-- The contract of one closed function. -/
def orcOf (f : Nat) : Orc := fun g args h => match Nat.beq g f with | true => (match args with | [] => some (some (.bool true, h)) | _ => none) | false => none
theorem orcOf_ok {P : Program} {B ng : Nat} {ρ : Nat → UInt8} {f : Nat} (he : Enters P f) (hc : ∀ w : World, CallsIn Fence.wide 0 P f #[] w (fun e w' => e = .returned (.bool true) ∧ Below w.heap.size w w')) : OrcOK P B ng ρ (orcOf f) := by
  intro g args h v h' hs φ w args' hw ha
  unfold orcOf at hs
  split at hs
  · rename_i hb
    have := Nat.eq_of_beq_eq_true hb
    subst this
    split at hs
    · cases hs
      cases ha
      exact ⟨he, CallsIn.mono (hc w) fun e w' ⟨h1, h2⟩ => by subst h1; exact got_of_below hw h2⟩
    · cases hs
  · cases hs
end Bly
