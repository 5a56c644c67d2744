/- A region that draws its order, by rules. -/
import Derived.Test.YtgafbagehjmipaaBlyK
namespace Bly
open Go

variable {E : Env} {call : Caller} {fid fuel n : Nat}

structure RecS where
  o : Oper
  s : SL
  v : AV
  h : H
def RecS.loud (r : RecS) : Bool := !quietV r.o.op r.v
def SRun (E : Env) (call : Caller) (n : Nat) : SL → List Oper → H → List RecS → SL → H → Prop
  | s, [], h, rss, s', h' => rss = [] ∧ s' = s ∧ h' = h
  | s, o :: l, h, rss, s', h' => ∃ v h1 rest, o.guard = none ∧ knownL s o.op.operands.toList = true ∧ fitsD o.dst n = true ∧ opA E call (rdL E s) o h = some (v, h1) ∧ SRun E call n (updL s o.dst v) l h1 rest s' h' ∧ rss = ⟨o, s, v, h⟩ :: rest
def sR (E : Env) (call : Caller) (n : Nat) (s : SL) (l : List Oper) (h : H) (K : List RecS → SL → H → Prop) : Prop := ∃ rss s' h', SRun E call n s l h rss s' h' ∧ K rss s' h'
theorem sR_nil {s : SL} {h : H} {K : List RecS → SL → H → Prop} (hk : K [] s h) : sR E call n s [] h K := ⟨[], s, h, ⟨rfl, rfl, rfl⟩, hk⟩
theorem sR_op {s : SL} {o : Oper} {l : List Oper} {h h1 : H} {v : AV} {K : List RecS → SL → H → Prop} (hg : o.guard = none) (hk : knownL s o.op.operands.toList = true) (hd : fitsD o.dst n = true) (hs : opA E call (rdL E s) o h = some (v, h1))
    (hn : sR E call n (updL s o.dst v) l h1 (fun rest s' h' => K (⟨o, s, v, h⟩ :: rest) s' h')) : sR E call n s (o :: l) h K := by
  obtain ⟨rest, s', h', g1, g2⟩ := hn
  exact ⟨_, s', h', ⟨v, h1, rest, hg, hk, hd, hs, g1, rfl⟩, g2⟩
/-- A record and what is known of it. -/
structure Like (r : Rec) (q : RecS) : Prop where
  o : r.o = q.o
  run : r.run = true
  v : r.v = q.v
  h : r.h = q.h
  tm : Holds r.tm q.s
  known : knownL q.s q.o.op.operands.toList = true
def Likes : List Rec → List RecS → Prop
  | [], [] => True
  | r :: l, q :: m => Like r q ∧ Likes l m
  | _, _ => False
theorem Likes.get : ∀ {l m}, Likes l m → l.length = m.length ∧ ∀ {i : Nat} {r : Rec}, nth l i = some r → ∃ q, nth m i = some q ∧ Like r q
  | [], [], _ => ⟨rfl, fun h => by simp [nth] at h⟩
  | r :: l, q :: m, ⟨h1, h2⟩ => by
    obtain ⟨g1, g2⟩ := Likes.get h2
    refine ⟨by simp [g1], fun {i r'} h => ?_⟩
    cases i with
    | zero => simp [nth] at h; subst h; exact ⟨q, rfl, h1⟩
    | succ i => simp [nth] at h; exact g2 h
  | [], _ :: _, h => h.elim
  | _ :: _, [], h => h.elim
theorem srun_recs (hle : n ≤ 512) {all : List Oper} : ∀ (l : List Oper) {s s' : SL} {h h' : H} {rss : List RecS} {tm : Tm}, SRun E call n s l h rss s' h' → tm.n = n → Holds tm s →
    ∃ rs tm', recsA E call all l tm h = some (rs, tm', h') ∧ Likes rs rss ∧ tm'.n = n ∧ Holds tm' s'
  | [], s, s', h, h', rss, tm, hr, h1, h2 => by
    obtain ⟨rfl, rfl, rfl⟩ := hr
    exact ⟨[], tm, rfl, trivial, h1, h2⟩
  | o :: l, s, s', h, h', rss, tm, hr, h1, h2 => by
    obtain ⟨v, hm, rest, hg, hk, hd, hs, hrest, rfl⟩ := hr
    obtain ⟨rs, tm', g1, g2, g3, g4⟩ := srun_recs hle (all := all) l hrest (tm := tm.putO o.dst v) (by rw [tm_n_putO]; exact h1) (h2.upd h1 hle hd v)
    have hst : stepA E call all o tm h = some (v, hm) := by
      unfold stepA guardTold wantA; rw [hg]
      show opA E call (rd E tm) o h = _
      rw [opA_congr (r' := rdL E s) (fun x hx => rdL_ok h2 hk x (by simpa using hx))]; exact hs
    refine ⟨⟨o, tm, wantA all o tm, v, h⟩ :: rs, tm', by simp only [recsA, hst, g1], ⟨⟨rfl, by show wantA all o tm = true; unfold wantA; rw [hg], rfl, rfl, h2, hk⟩, g2⟩, g3, g4⟩
def loudS (rss : List RecS) (b : List Nat) : Bool :=
  (List.range rss.length).all fun j => (List.range j).all fun i => match nth rss i, nth rss j with
    | some ri, some rj => !ri.loud || !rj.loud || bitOf b i j
    | _, _ => false
def heapS (rss : List RecS) (hend : H) (k : Nat) : H := match nth rss k with | some r => r.h | none => hend
def barred (rss : List RecS) (b : List Nat) (i k : Nat) : Bool :=
  (List.range rss.length).any fun j => match nth rss j with
    | some rj => rj.loud && ((Nat.ble k j && bitOf b j i) || (Nat.blt j k && bitOf b i j))
    | none => false
def fitsS (E : Env) (call : Caller) (rss : List RecS) (b : List Nat) (hend : H) : Prop :=
  ∀ i r, nth rss i = some r → quietV r.o.op r.v = true → avEq r.v r.v = true ∧ ∀ k, k ≤ rss.length → barred rss b i k = false → ∃ h'', opA E call (rdL E r.s) r.o (heapS rss hend k) = some (r.v, h'')
theorem nth_none {α} : ∀ (l : List α) (i : Nat), l.length ≤ i → nth l i = none := fun l i h => by rw [nth_eq]; exact List.getElem?_eq_none h
theorem nth_some {α} : ∀ (l : List α) (i : Nat), i < l.length → ∃ a, nth l i = some a := fun l i h => ⟨l[i], by rw [nth_eq]; exact List.getElem?_eq_getElem h⟩
theorem likes_loud {rs : List Rec} {rss : List RecS} (hl : Likes rs rss) {b : List Nat} (h : loudS rss b = true) : loudChain rs b = true := by
  obtain ⟨hlen, hget⟩ := hl.get
  refine List.all_eq_true.2 fun j hj => List.all_eq_true.2 fun i hi => ?_
  have hj' : j < rs.length := by simpa using hj
  have hi' : i < j := by simpa using hi
  have h1 := List.all_eq_true.1 (List.all_eq_true.1 h j (by simpa [← hlen] using hj')) i (by simpa using hi')
  obtain ⟨ri, e1⟩ := nth_some rs i (by omega)
  obtain ⟨rj, e2⟩ := nth_some rs j hj'
  obtain ⟨qi, f1, l1⟩ := hget e1
  obtain ⟨qj, f2, l2⟩ := hget e2
  simp only [f1, f2] at h1
  simp only [e1, e2, Rec.loud, l1.run, l2.run, l1.o, l2.o, l1.v, l2.v, Bool.true_and]
  exact h1
theorem likes_heap {rs : List Rec} {rss : List RecS} (hl : Likes rs rss) {hend : H} (k : Nat) : (match nth rs k with | some r => r.h | none => hend) = heapS rss hend k := by
  obtain ⟨hlen, hget⟩ := hl.get
  unfold heapS
  by_cases hk : k < rs.length
  · obtain ⟨r, e⟩ := nth_some rs k hk
    obtain ⟨q, f, l⟩ := hget e
    rw [e, f]; exact l.h
  · rw [nth_none rs k (by omega), nth_none rss k (by omega)]
theorem likes_barred {rs : List Rec} {rss : List RecS} (hl : Likes rs rss) {b : List Nat} {i k : Nat} (h : barred rss b i k = true) :
    ((List.range rs.length).any fun j => match nth rs j with
      | some rj => rj.loud && ((Nat.ble k j && bitOf b j i) || (Nat.blt j k && bitOf b i j))
      | none => false) = true := by
  obtain ⟨hlen, hget⟩ := hl.get
  obtain ⟨j, hj, h1⟩ := List.any_eq_true.1 h
  have hj' : j < rs.length := by rw [hlen]; simpa using hj
  refine List.any_eq_true.2 ⟨j, by simpa using hj', ?_⟩
  obtain ⟨r, e⟩ := nth_some rs j hj'
  obtain ⟨q, f, l⟩ := hget e
  simp only [f] at h1
  simp only [e, Rec.loud, l.run, l.o, l.v, Bool.true_and]
  exact h1
theorem likes_fits {rs : List Rec} {rss : List RecS} (hl : Likes rs rss) {b : List Nat} {hend : H} (h : fitsS E call rss b hend) : quietFits E call rs b hend = true := by
  obtain ⟨hlen, hget⟩ := hl.get
  refine List.all_eq_true.2 fun i hi => ?_
  have hi' : i < rs.length := by simpa using hi
  obtain ⟨r, e⟩ := nth_some rs i hi'
  obtain ⟨q, f, l⟩ := hget e
  simp only [e]
  cases hq : quietV r.o.op r.v with
  | false => simp [Rec.loud, l.run, hq]
  | true =>
    obtain ⟨h1, h2⟩ := h i q f (by rw [← l.o, ← l.v]; exact hq)
    simp only [Bool.or_eq_true]
    refine .inr (List.all_eq_true.2 fun k hk => ?_)
    have hk' : k ≤ rs.length := by have : k < rs.length + 1 := by simpa using hk
                                   omega
    simp only [Bool.or_eq_true]
    cases hb : barred rss b i k with
    | true => exact .inl (likes_barred hl hb)
    | false =>
      refine .inr ?_
      obtain ⟨h'', h3⟩ := h2 k (by omega) hb
      have h4 : opA E call (rd E r.tm) r.o (heapS rss hend k) = some (r.v, h'') := by
        rw [l.o, l.v, opA_congr (r' := rdL E q.s) (fun x hx => rdL_ok l.tm l.known x (by simpa using hx))]; exact h3
      have h5 := likes_heap hl (hend := hend) k
      show (match opA E call (rd E r.tm) r.o (match nth rs k with | some rk => rk.h | none => hend) with | some (v, _) => avEq v r.v | none => false) = true
      have h6 : opA E call (rd E r.tm) r.o (match nth rs k with | some rk => rk.h | none => hend) = some (r.v, h'') := by
        rw [← h4]; exact congrArg _ h5
      rw [h6]
      simp only
      rw [l.v]; exact h1
theorem sC_draw {id : Nat} {ops : Array Oper} {s : SL} {h : H} {Q : AEx → Tm → H → Prop} (hle : n ≤ 512) (h1 : edgesBack ops.toList = true) (h2 : orderedAll ops.toList (befores ops.toList []) = true)
    (hk : sR E call n s ops.toList h (fun rss s' h' => loudS rss (befores ops.toList []) = true ∧ fitsS E call rss (befores ops.toList []) h' ∧ sQ n s' h' (Q .normal))) : sC E call fid fuel n s (.region id ops true) h Q := by
  intro tm g1 g2
  obtain ⟨rss, s', h', hr, k1, k2, k3⟩ := hk
  obtain ⟨rs, tm', e1, e2, e3, e4⟩ := srun_recs hle (all := ops.toList) _ hr g1 g2
  refine ⟨.normal, tm', h', ?_, k3 tm' e3 e4⟩
  have hd : drawA E call ops.toList tm h = some (tm', h') := by
    unfold drawA
    rw [e1]
    simp only [h1, h2, likes_loud e2 k1, likes_fits e2 k2]
  simp only [codeA, hd]
/-- Where no heap is touched: nothing is asked. -/
theorem fits_quiet {rss : List RecS} {b : List Nat} {hend : H} (h : ∀ r ∈ rss, avEq r.v r.v = true ∧ opA E call (rdL E r.s) r.o hend = some (r.v, hend) ∧ r.h = hend) : fitsS E call rss b hend := by
  intro i r hi hq
  have hmem : r ∈ rss := by rw [nth_eq] at hi; exact List.mem_of_getElem? hi
  obtain ⟨h1, h2, h3⟩ := h r hmem
  refine ⟨h1, fun k _ _ => ⟨hend, ?_⟩⟩
  have : heapS rss hend k = hend := by
    unfold heapS
    cases hk : nth rss k with
    | none => rfl
    | some q => exact (h q (by rw [nth_eq] at hk; exact List.mem_of_getElem? hk)).2.2
  rw [this]; exact h2
theorem avEq_int {k : IntKind} {a : Int} : avEq (.int k a) (.int k a) = true := by simp [avEq, ieq_eq]
theorem avEq_ptr {b o : Nat} : avEq (.ptr b o) (.ptr b o) = true := by simp [avEq, Nat.beq_refl]
theorem Sl.avEq {h : H} {v : AV} {w : Bool} {L : List Int} (hs : Sl h v w L) : avEq v v = true := by
  rcases hs with ⟨rfl, rfl⟩ | ⟨b, ⟨off, cs, m, rfl, _⟩, _⟩
  · rfl
  · simp [Bly.avEq, Nat.beq_refl]

theorem sC_range {g : Operand} {ps : Array Tmp} {as body : Code} {s : SL} {h : H} {Q : AEx → Tm → H → Prop} {f : Nat} {cap : List AV} (hk : knownL s [g] = true) (hg : rdL E s g = .fn f cap) (hlt : h.next < HM)
    (hc : ∀ tm : Tm, tm.n = n → Holds tm s → ∃ v h2, call (.fn f []) (.yld h.next :: cap) (h.alc (.loop ⟨.ready, none, fid, tm, ps.toList, as, body⟩)) = some (v, h2) ∧
      ∃ r, h2.get h.next = some (.loop r) ∧ r.state ≠ .busy ∧ Q (r.pending.getD .normal) tm (h2.put h.next (.loop { r with state := .exhausted }))) : sC E call fid fuel n s (.rangeFunc g ps as body) h Q := by
  intro tm h1 h2
  obtain ⟨v, h3, a1, r, a2, a3, a4⟩ := hc tm h1 h2
  exact wpC_range (by rw [rdL_one h2 hk]; exact hg) (new_alc hlt) a1 a2 a3 a4
theorem op_build {o : Oper} {r : Operand → AV} {h : H} {v : AV} {t : Nat} {ps : Array (Nat × Operand)} {ti : TI} (ho : o.op = .build t ps) (ht : E.ti t = some ti) (hb : buildA ti (ps.toList.map fun p => (p.1, r p.2)) = some v) :
    opA E call r o h = some (v, h) := by
  simp only [opA, ho, ht, hb, valA]

/-! ### A region that draws, and touches no heap -/
def sD (E : Env) (call : Caller) (n : Nat) : SL → List Oper → H → (SL → Prop) → Prop
  | s, [], _, K => K s
  | s, o :: l, h, K => ∃ v, o.guard = none ∧ knownL s o.op.operands.toList = true ∧ fitsD o.dst n = true ∧ opA E call (rdL E s) o h = some (v, h) ∧ avEq v v = true ∧ sD E call n (updL s o.dst v) l h K
theorem sD_op {s : SL} {o : Oper} {l : List Oper} {h : H} {K : SL → Prop} {v : AV} (hg : o.guard = none) (hk : knownL s o.op.operands.toList = true) (hd : fitsD o.dst n = true) (hs : opA E call (rdL E s) o h = some (v, h)) (he : avEq v v = true)
    (hn : sD E call n (updL s o.dst v) l h K) : sD E call n s (o :: l) h K := ⟨v, hg, hk, hd, hs, he, hn⟩
theorem sD_run : ∀ (l : List Oper) {s : SL} {h : H} {K : SL → Prop}, sD E call n s l h K → ∃ rss s', SRun E call n s l h rss s' h ∧ (∀ r ∈ rss, avEq r.v r.v = true ∧ opA E call (rdL E r.s) r.o h = some (r.v, h) ∧ r.h = h ∧ r.o ∈ l) ∧ K s'
  | [], s, h, K, hk => ⟨[], s, ⟨rfl, rfl, rfl⟩, fun r hr => (by cases hr), hk⟩
  | o :: l, s, h, K, ⟨v, hg, hk, hd, hs, he, hn⟩ => by
    obtain ⟨rss, s', g1, g2, g3⟩ := sD_run l hn
    refine ⟨⟨o, s, v, h⟩ :: rss, s', ⟨v, h, rss, hg, hk, hd, hs, g1, rfl⟩, fun r hr => ?_, g3⟩
    rcases List.mem_cons.1 hr with rfl | hr
    · exact ⟨he, hs, rfl, by simp⟩
    · obtain ⟨a, b, c, d⟩ := g2 r hr
      exact ⟨a, b, c, by simp [d]⟩
theorem sC_drawq {id : Nat} {ops : Array Oper} {s : SL} {h : H} {Q : AEx → Tm → H → Prop} (hle : n ≤ 512) (h1 : edgesBack ops.toList = true) (h2 : orderedAll ops.toList (befores ops.toList []) = true) (h3 : (ops.toList.all fun o => quiet o.op) = true)
    (hk : sD E call n s ops.toList h (fun s' => sQ n s' h (Q .normal))) : sC E call fid fuel n s (.region id ops true) h Q := by
  obtain ⟨rss, s', g1, g2, g3⟩ := sD_run _ hk
  refine sC_draw hle h1 h2 ⟨rss, s', h, g1, ?_, fits_quiet fun r hr => ⟨(g2 r hr).1, (g2 r hr).2.1, (g2 r hr).2.2.1⟩, g3⟩
  refine List.all_eq_true.2 fun j hj => List.all_eq_true.2 fun i hi => ?_
  have hj' : j < rss.length := by simpa using hj
  have hi' : i < j := by simpa using hi
  obtain ⟨ri, e1⟩ := nth_some rss i (by omega)
  obtain ⟨rj, e2⟩ := nth_some rss j hj'
  have hm : ri ∈ rss := by rw [nth_eq] at e1; exact List.mem_of_getElem? e1
  have hq := List.all_eq_true.1 h3 ri.o (g2 ri hm).2.2.2
  simp only [e1, e2, RecS.loud, quietV, hq, Bool.not_true, Bool.not_false, Bool.true_or]
theorem avEq_bool {b : Bool} : avEq (.bool b) (.bool b) = true := by simp [avEq]
theorem avEq_load {h : H} {ti : TI} {a v : AV} (hl : loadA h ti a = some v) : avEq a a = true := by
  unfold loadA at hl
  split at hl
  · exact avEq_ptr
  · cases hl
end Bly
