/- One operation, in a walk. -/
import Derived.Test.YtgafbagehjmipaaBlyT
import Derived.RangeFuncNested
import Derived.OrdersIn
import Derived.TacticsIn
namespace Bly
open Go Go.RowKit

variable {P : Program} {E : Env} {w : World} {φ : Phi} {ρ : Nat → UInt8} {B ng : Nat} {h h' : H}

/-- The wide fence, in a round or not. -/
def Fr (r : Option Nat) : Fence := { Fence.wide with round := r }
theorem Fr_none : Fr none = Fence.wide := rfl
/-- What an activation comes to. -/
def Got (B ng : Nat) (φ : Phi) (ρ : Nat → UInt8) (w : World) (h' : H) (v : AV) (e : Ending) (w' : World) : Prop :=
  ∃ v' φ', e = .returned v' ∧ Step B φ w φ' w' ∧ WR B ng φ' ρ h' w' ∧ VR φ' ρ v v'
def Enters (P : Program) (f : FuncId) : Prop := ∀ args w, (callFunc f args).run P w = .ok (.enter f args) w
/-- A caller's answers are true. -/
structure CallerOK (P : Program) (B ng : Nat) (ρ : Nat → UInt8) (call : Caller) : Prop where
  fn : ∀ {f c args h v h'}, call (.fn f c) args h = some (v, h') → ∀ {φ w args'}, WR B ng φ ρ h w → VRs φ ρ args args' →
    Enters P f ∧ CallsIn Fence.wide 0 P f args'.toArray w (Got B ng φ ρ w h' v)
  yld : ∀ {l args h v h'}, call (.yld l) args h = some (v, h') → ∀ {φ w args'}, WR B ng φ ρ h w → VRs φ ρ args args' → ∀ {p}, φ l = some p →
    ∃ fn tmps assign body, (Instr.yield p.blk args'.toArray).run P w = .ok (.round p.blk fn tmps assign body) w ∧ RoundIn Fence.wide 0 P p.blk fn tmps assign body w (Got B ng φ ρ w h' v)

theorem rd_ok {tm : Tm} {a : Act} (hE : E.ng = ng) (ht : TR φ ρ tm a.tmps) (hw : WR B ng φ ρ h w) (x : Operand) : VR φ ρ (rd E tm x) (a.eval x) := by
  cases x with
  | tmp t => exact ht.rd t
  | const v => exact ofConst_ok v
  | global g =>
    simp only [rd, Act.eval]
    split
    · rename_i hg
      obtain ⟨s, hs⟩ := hw.glob g (by rw [← hE]; exact blt_true.1 hg)
      have := VR.ptr (ρ := ρ) (off := 0) hs
      simpa using this
    · exact .bad _
  | func f => exact .fn .nil
theorem rd_args {r : Operand → AV} {r' : Operand → Value} (hr : ∀ x, VR φ ρ (r x) (r' x)) : ∀ l : List Operand, VRs φ ρ (l.map r) (l.map r')
  | [] => .nil
  | x :: l => .cons (hr x) (rd_args hr l)

/-- An operation's walk: from a run that hands back a value. -/
theorem wp_of_value {F : Fence} {n : Nat} {o : Oper} {a : Act} {next : Act → World → Prop} {Q : Exit → Act → World → Prop} (hF : ∀ f, F.fn f) (hd : ∀ c, o.op ≠ .defer c) {v : Value} {w' : World}
    (hrun : (execOp a.eval o).run P w = .ok (.value v) w') (hn : next (a.put o.dst v) w') : o.wpIn F n P a w next Q := by
  refine ⟨fun f _ => hF f, ?_⟩
  rw [Oper.semAt_eq _ _ _ hd, hrun]
  exact hn
theorem wp_of_skip {F : Fence} {n : Nat} {o : Oper} {a : Act} {next : Act → World → Prop} {Q : Exit → Act → World → Prop} (hF : ∀ f, F.fn f) (hd : ∀ c, o.op ≠ .defer c) {w' : World}
    (hrun : (execOp a.eval o).run P w = .ok .skip w') (hn : next (a.put o.dst Go.undef) w') : o.wpIn F n P a w next Q := by
  refine ⟨fun f _ => hF f, ?_⟩
  rw [Oper.semAt_eq _ _ _ hd, hrun]
  exact hn

/-- What is asked of the walk behind an operation. -/
def Next (B ng : Nat) (φ : Phi) (ρ : Nat → UInt8) (w : World) (h' : H) (v : AV) (a : Act) (d : Option Tmp) (next : Act → World → Prop) : Prop :=
  ∀ v' w' φ', Step B φ w φ' w' → WR B ng φ' ρ h' w' → VR φ' ρ v v' → next (a.put d v') w'

section
variable {F : Fence} {n : Nat} {o : Oper} {a : Act} {next : Act → World → Prop} {Q : Exit → Act → World → Prop} {v : AV} (hF : ∀ f, F.fn f)
include hF
theorem wp_fits {s : Sem Value} (hs : execOp a.eval o = (do pure (.value (← s)) : Sem Go.Next)) (hd : ∀ c, o.op ≠ .defer c) (hf : Fits P B ng φ ρ w h' v s) (hn : Next B ng φ ρ w h' v a o.dst next) : o.wpIn F n P a w next Q := by
  obtain ⟨v', w', φ', h1, h2, h3, h4⟩ := hf
  refine wp_of_value hF hd (v := v') (w' := w') ?_ (hn v' w' φ' h2 h3 h4)
  rw [hs]; simp [h1]
theorem wp_fitsU {s : Sem Unit} (hs : execOp a.eval o = (do s; pure .skip : Sem Go.Next)) (hd : ∀ c, o.op ≠ .defer c) (hf : FitsU P B ng φ ρ w h' s) (hv : v = .tup []) (hn : Next B ng φ ρ w h' v a o.dst next) : o.wpIn F n P a w next Q := by
  obtain ⟨w', φ', h1, h2, h3⟩ := hf
  subst hv
  refine wp_of_skip hF hd (w' := w') ?_ (hn Go.undef w' φ' h2 h3 .undef)
  rw [hs]; simp [h1]
theorem wp_pure (hw : WR B ng φ ρ h w) {v' : Value} (hs : (execOp a.eval o).run P w = .ok (.value v') w) (hd : ∀ c, o.op ≠ .defer c) (hv : VR φ ρ v v') (hn : Next B ng φ ρ w h v a o.dst next) : o.wpIn F n P a w next Q :=
  wp_of_value hF hd hs (hn v' w φ (.refl B φ w) hw hv)
end

theorem valA_inv {o : Option AV} {v : AV} (hb : valA o h = some (v, h')) : o = some v ∧ h' = h := by
  unfold valA at hb; split at hb
  · cases hb; exact ⟨rfl, rfl⟩
  · cases hb
theorem arr1 {α} {a : Array α} {x : α} (h : a.toList = [x]) : a = #[x] := by rw [← Array.toList_inj, h]
theorem arr2 {α} {a : Array α} {x y : α} (h : a.toList = [x, y]) : a = #[x, y] := by rw [← Array.toList_inj, h]
theorem map1 {α β} {f : α → β} {l : List α} {y : β} (h : l.map f = [y]) : ∃ x, l = [x] ∧ f x = y := by
  cases l with
  | nil => simp at h
  | cons a l => cases l with
    | nil => simp at h; exact ⟨a, rfl, h⟩
    | cons => simp at h
theorem map2 {α β} {f : α → β} {l : List α} {y z : β} (h : l.map f = [y, z]) : ∃ x x', l = [x, x'] ∧ f x = y ∧ f x' = z := by
  cases l with
  | nil => simp at h
  | cons a l => cases l with
    | nil => simp at h
    | cons b l => cases l with
      | nil => simp at h; exact ⟨a, b, rfl, h⟩
      | cons => simp at h

section
variable {next : Act → World → Prop} {Q : Exit → Act → World → Prop} {v : AV} {a : Act} {r : Operand → AV} {call : Caller} {ro : Option Nat}

theorem builtin_sound (hE : EnvOK P E) (hw : WR B ng φ ρ h w) (hr : ∀ x, VR φ ρ (r x) (a.eval x)) {b : Builtin} {args : Array Operand} {ats : Array TypeId} {dst : Option Tmp} {type : TypeId} {pos : String} {after : Array Edge} {guard : Option (Nat × Bool)}
    (hb : builtinA E b ats.toList (args.toList.map r) h = some (v, h')) (hn : Next B ng φ ρ w h' v a dst next) :
    ({ dst := dst, op := .call { callee := .builtin b, args := args, argTypes := ats }, type := type, pos := pos, after := after, guard := guard } : Oper).wpIn (Fr ro) 0 P a w next Q := by
  have hF : ∀ f, (Fr ro).fn f := fun _ => trivial
  unfold builtinA at hb
  split at hb
  · rename_i x t hax hat
    obtain ⟨x0, hx0, rfl⟩ := map1 hax
    have h1 := arr1 hx0
    have h2 := arr1 hat
    subst h1; subst h2
    cases b <;> simp only at hb <;> first | cases hb | skip
    obtain ⟨h3, rfl⟩ := valA_inv hb
    exact wp_fits hF (s := Builtin.len_ #[t] type #[a.eval x0]) (by simp [execOp, resolve, invoke, builtin]) (by intro c; simp) (len_fits hE hw (hr x0) h3) hn
  · rename_i x y t u hax hat
    obtain ⟨x0, y0, hx0, rfl, rfl⟩ := map2 hax
    have h1 := arr2 hx0
    have h2 := arr2 hat
    subst h1; subst h2
    cases b <;> simp only at hb <;> first | cases hb | skip
    · exact wp_fits hF (s := Builtin.append_ #[t, u] type #[a.eval x0, a.eval y0]) (by simp [execOp, resolve, invoke, builtin]) (by intro c; simp) (append_fits hE hw (hr x0) (hr y0) hb) hn
    · exact wp_fits hF (s := Builtin.copy_ #[t, u] type #[a.eval x0, a.eval y0]) (by simp [execOp, resolve, invoke, builtin]) (by intro c; simp) (copy_fits hE hw (hr x0) (hr y0) hb) hn
    · split at hb
      · rename_i h1 hd
        cases hb
        exact wp_fits hF (s := Builtin.delete_ #[t, u] type #[a.eval x0, a.eval y0]) (by simp [execOp, resolve, invoke, builtin]) (by intro c; simp) (delete_fits hE hw (hr x0) (hr y0) hd) hn
      · cases hb
    · obtain ⟨h3, rfl⟩ := valA_inv hb
      exact wp_fits hF (s := Builtin.max_ #[t, u] type #[a.eval x0, a.eval y0]) (by simp [execOp, resolve, invoke, builtin]) (by intro c; simp) (minMax_fits (ts := #[t, u]) (ty := type) (mx := true) hw (hr x0) (hr y0) h3) hn
    · obtain ⟨h3, rfl⟩ := valA_inv hb
      exact wp_fits hF (s := Builtin.min_ #[t, u] type #[a.eval x0, a.eval y0]) (by simp [execOp, resolve, invoke, builtin]) (by intro c; simp) (minMax_fits (ts := #[t, u]) (ty := type) (mx := false) hw (hr x0) (hr y0) h3) hn
  · cases hb
theorem call_sound (hE : EnvOK P E) (hc : CallerOK P B ng ρ call) (hw : WR B ng φ ρ h w) (hr : ∀ x, VR φ ρ (r x) (a.eval x)) {c : Call} {dst : Option Tmp} {type : TypeId} {pos : String} {after : Array Edge} {guard : Option (Nat × Bool)}
    (hb : callOpA E call r c h = some (v, h')) (hn : Next B ng φ ρ w h' v a dst next) :
    ({ dst := dst, op := .call c, type := type, pos := pos, after := after, guard := guard } : Oper).wpIn (Fr ro) 0 P a w next Q := by
  obtain ⟨callee, args, ats⟩ := c
  unfold callOpA at hb
  simp only at hb
  have hdep : ∀ {p : Prop}, (Fr ro).depth.isSome = true → p := by intro p h; simp [Fr, Fence.wide] at h
  split at hb
  · rename_i f
    split at hb
    · rename_i g cap hf
      have hfv := hr f
      rw [hf] at hfv
      cases hev : a.eval f with
      | func fn first captured =>
        rw [hev] at hfv
        cases hfv with
        | fn hcap =>
          rename_i cs
          have hargs := (rd_args hr args.toList).append hcap
          obtain ⟨hent, hcalls⟩ := hc.fn hb hw hargs
          refine ⟨fun _ _ => trivial, ?_⟩
          rw [Oper.semAt_eq _ _ _ (by intro c; simp)]
          have hrun : (execOp a.eval ({ dst := dst, op := .call { callee := .value f, args := args, argTypes := ats }, type := type, pos := pos, after := after, guard := guard } : Oper)).run P w
              = .ok (.enter g (args.toList.map a.eval ++ cs).toArray) w := by
            simp only [execOp, resolve, hev, Deferred.ofValue, Sem.run_bind, Sem.run_pure, Result.andThen_ok, invoke]
            rw [hent]
            congr 2
            apply Array.ext'
            simp
          rw [hrun]
          refine ⟨hdep, CallsIn.mono (F := Fr ro) (show CallsIn (Fr ro) 0 P g _ w _ from hcalls) ?_⟩
          rintro e w' ⟨v', φ', rfl, h2, h3, h4⟩
          exact hn v' w' φ' h2 h3 h4
      | _ => rw [hev] at hfv; cases hfv
    · rename_i l hf
      have hfv := hr f
      rw [hf] at hfv
      cases hev : a.eval f with
      | func fn first captured =>
        rw [hev] at hfv
        cases hfv with
        | yld hp =>
          rename_i p
          have hargs := rd_args hr args.toList
          obtain ⟨fn, tmps, assign, body, hy, hround⟩ := hc.yld hb hw hargs hp
          refine ⟨fun _ _ => trivial, ?_⟩
          rw [Oper.semAt_eq _ _ _ (by intro c; simp)]
          have hrun : (execOp a.eval ({ dst := dst, op := .call { callee := .value f, args := args, argTypes := ats }, type := type, pos := pos, after := after, guard := guard } : Oper)).run P w
              = .ok (.round p.blk fn tmps assign body) w := by
            simp only [execOp, resolve, hev, Deferred.ofValue, Sem.run_bind, Sem.run_pure, Result.andThen_ok, invoke]
            rw [← hy]
            congr 2
            apply Array.ext'
            simp
          rw [hrun]
          refine ⟨hdep, ?_⟩
          have := RoundIn.mono hround (R' := fun
            | .returned v, w'' => next (a.put dst v) w''
            | .panicked chain, w'' => Q (.panic chain) a w''
            | .outgrown, _ => LetsOut Q) (by
              rintro e w' ⟨v', φ', rfl, h2, h3, h4⟩
              exact hn v' w' φ' h2 h3 h4)
          exact this
      | _ => rw [hev] at hfv; cases hfv
    · cases hb
  · rename_i b
    exact builtin_sound hE hw hr hb hn
  · cases hb

set_option maxHeartbeats 2000000 in
/-- **One operation.** -/
theorem opA_sound (hE : EnvOK P E) (hc : CallerOK P B ng ρ call) (hw : WR B ng φ ρ h w) (hr : ∀ x, VR φ ρ (r x) (a.eval x)) {o : Oper}
    (hb : opA E call r o h = some (v, h')) (hn : Next B ng φ ρ w h' v a o.dst next) : o.wpIn (Fr ro) 0 P a w next Q := by
  have hF : ∀ f, (Fr ro).fn f := fun _ => trivial
  obtain ⟨dst, op, type, pos, after, guard⟩ := o
  have tkd : ∀ {t : TypeId} {k : TK}, E.tk t = k → k ≠ .other → ∃ d, P.underlying t = some d ∧ tkOf P d = k := fun h1 h2 => let ⟨_, d, _, hd, hk⟩ := tk_inv hE h1 h2; ⟨d, hd, hk⟩
  cases op <;> simp only [opA] at hb
  case move x => cases hb; exact wp_pure hF hw (v' := a.eval x) (by simp [execOp]) (by intro c; simp) (hr x) hn
  case assign x => cases hb; exact wp_pure hF hw (v' := a.eval x) (by simp [execOp]) (by intro c; simp) (hr x) hn
  case pick c x y =>
    split at hb
    · rename_i hcv
      cases hb
      have hcc := hr c; rw [hcv] at hcc
      cases he : a.eval c <;> rw [he] at hcc <;> cases hcc
      exact wp_pure hF hw (v' := a.eval x) (by simp [execOp, he, asBool]) (by intro c; simp) (hr x) hn
    · rename_i hcv
      cases hb
      have hcc := hr c; rw [hcv] at hcc
      cases he : a.eval c <;> rw [he] at hcc <;> cases hcc
      exact wp_pure hF hw (v' := a.eval y) (by simp [execOp, he, asBool]) (by intro c; simp) (hr y) hn
    · cases hb
  case alloc t =>
    split at hb
    · rename_i ti hti; exact wp_fits hF (s := Instr.alloc t true (.tuple #[])) (by simp [execOp]) (by intro c; simp) (alloc_fits hw (hE.ty _ _ hti) hb) hn
    · cases hb
  case box t x => exact wp_fits hF (s := Instr.box t (a.eval x)) (by simp [execOp]) (by intro c; simp) (box_fits hw (hr x) hb) hn
  case build t parts =>
    split at hb
    · rename_i ti hti
      obtain ⟨h1, rfl⟩ := valA_inv hb
      exact wp_fits hF (s := Instr.build t (parts.map fun (i, x) => (i, a.eval x))) (by simp [execOp]) (by intro c; simp)
        (build_fits hw (hE.ty _ _ hti) (parts' := parts.map fun (i, x) => (i, a.eval x)) (by have := PartsR.of r a.eval hr parts.toList; simpa using this) h1) hn
    · cases hb
  case buildSlice t len parts =>
    have hne : E.tk t ≠ .other := by intro e; rw [e] at hb; simp [buildSliceA] at hb
    obtain ⟨d, hd, hk⟩ := tkd rfl hne
    exact wp_fits hF (s := Instr.buildSlice t len (parts.map fun (i, x) => (i, a.eval x))) (by simp [execOp]) (by intro c; simp)
      (buildSlice_fits hw hd hk (parts' := parts.map fun (i, x) => (i, a.eval x)) (by have := PartsR.of r a.eval hr parts.toList; simpa using this) hb) hn
  case load t x =>
    split at hb
    · rename_i ti hti
      obtain ⟨h1, rfl⟩ := valA_inv hb
      exact wp_fits hF (s := Instr.loadAt t (a.eval x)) (by simp [execOp]) (by intro c; simp) (load_fits hw (hE.ty _ _ hti) (hr x) h1) hn
    · cases hb
  case store t x y =>
    split at hb
    · rename_i ti hti
      split at hb
      · rename_i h1 hs
        cases hb
        obtain ⟨w', h2, h3, h4⟩ := store_fits hw (hE.ty _ _ hti) (hr x) (hr y) hs
        exact wp_fitsU hF (s := Instr.storeAt t (a.eval x) (a.eval y)) (by simp [execOp]) (by intro c; simp) ⟨w', φ, h2, h3, h4⟩ rfl hn
      · cases hb
    · cases hb
  case nilCheck x =>
    obtain ⟨rfl, rfl, hcase⟩ := nilCheck_fits (hr x) hb
    rcases hcase with ⟨ad, he⟩ | ⟨f, cs, he⟩ | ⟨l, he⟩
    · exact wp_pure hF hw (v' := a.eval x) (by simp [execOp, he]) (by intro c; simp) (hr x) hn
    · exact wp_pure hF hw (v' := a.eval x) (by simp [execOp, he]) (by intro c; simp) (hr x) hn
    · exact wp_pure hF hw (v' := a.eval x) (by simp [execOp, he]) (by intro c; simp) (hr x) hn
  case binOp op t x y u =>
    obtain ⟨h1, rfl⟩ := valA_inv hb
    obtain ⟨v', h2, h3⟩ := bin_fits (P := P) (w := w) hE (xo := x) (yo := y) (hr x) (hr y) h1
    exact wp_pure hF hw (v' := v') (by simp only [execOp, Sem.run_bind] at h3 ⊢; rw [h3]; rfl) (by intro c; simp) h2 hn
  case unOp op t x =>
    obtain ⟨h1, rfl⟩ := valA_inv hb
    obtain ⟨v', h2, h3⟩ := un_fits (P := P) (w := w) (hr x) h1
    exact wp_pure hF hw (v' := v') (by simp only [execOp, Sem.run_bind, h3]; rfl) (by intro c; simp) h2 hn
  case convert s d x => exact wp_fits hF (s := convert s d (a.eval x)) (by simp [execOp]) (by intro c; simp) (conv_fits hE hw (hr x) hb) hn
  case makeFunc f first captured =>
    split at hb
    · rename_i g hfirst
      cases hb
      have h1 : first = #[] := by rw [← Array.toList_inj, hfirst]
      subst h1
      exact wp_pure hF hw (v' := .func (.func g) #[] (captured.toList.map a.eval).toArray) (by simp [execOp, Instr.makeFunc]; apply Array.ext'; simp) (by intro c; simp) (.fn (rd_args hr _)) hn
    · cases hb
  case makeMap t x =>
    split at hb
    · split at hb
      · rename_i b h1 hnew
        cases hb
        exact wp_fits hF (s := Instr.makeMap t none) (by simp [execOp]) (by intro c; simp) (makeMap_fits hw hnew) hn
      · cases hb
    · cases hb
  case makeSlice t l c =>
    have hne : E.tk t ≠ .other := by intro e; rw [e] at hb; simp [makeSliceA] at hb
    obtain ⟨d, hd, hk⟩ := tkd rfl hne
    exact wp_fits hF (s := Instr.makeSlice t (a.eval l) (a.eval c)) (by simp [execOp]) (by intro c; simp) (makeSlice_fits hw hd hk (hr l) (hr c) hb) hn
  case slice t x lo hi mx =>
    obtain ⟨h1, rfl⟩ := valA_inv hb
    have hne : E.tk t ≠ .other := by
      intro e; rw [e] at h1; unfold sliceA at h1; split at h1
      · cases h1
      · simp at h1
    obtain ⟨d, hd, hk⟩ := tkd rfl hne
    exact wp_fits hF (s := Instr.sliceAt t (a.eval x) (lo.map a.eval) (hi.map a.eval) (mx.map a.eval)) (by simp [execOp]) (by intro c; simp) (slice_fits hw hd hk (hr x) hr h1) hn
  case fieldAddr t x f =>
    obtain ⟨h1, rfl⟩ := valA_inv hb
    have hne : E.tk t ≠ .other := by intro e; rw [e] at h1; simp [fieldAddrA] at h1
    obtain ⟨d, hd, hk⟩ := tkd rfl hne
    exact wp_fits hF (s := Instr.fieldAt t (a.eval x) f) (by simp [execOp]) (by intro c; simp) (fieldAddr_fits hw hd hk (hr x) h1) hn
  case field t x f =>
    obtain ⟨h1, rfl⟩ := valA_inv hb
    have hne : E.tk t ≠ .other := by intro e; rw [e] at h1; simp [fieldA] at h1
    obtain ⟨d, hd, hk⟩ := tkd rfl hne
    exact wp_fits hF (s := Instr.field t (a.eval x) f) (by simp [execOp]) (by intro c; simp) (field_fits hw hd hk (hr x) h1) hn
  case indexAddr t x i =>
    obtain ⟨h1, rfl⟩ := valA_inv hb
    have hne : E.tk t ≠ .other := by intro e; rw [e] at h1; unfold indexAddrA at h1; split at h1 <;> simp at h1
    obtain ⟨d, hd, hk⟩ := tkd rfl hne
    exact wp_fits hF (s := Instr.indexAt t (a.eval x) (a.eval i)) (by simp [execOp]) (by intro c; simp) (indexAddr_fits hw hd hk (hr x) (hr i) h1) hn
  case index t x i =>
    obtain ⟨h1, rfl⟩ := valA_inv hb
    have hne : E.tk t ≠ .other := by intro e; rw [e] at h1; unfold indexA at h1; split at h1 <;> simp at h1
    obtain ⟨d, hd, hk⟩ := tkd rfl hne
    exact wp_fits hF (s := Instr.index t (a.eval x) (a.eval i)) (by simp [execOp]) (by intro c; simp) (index_fits hw hd hk (hr x) (hr i) h1) hn
  case lookup t x k ok =>
    obtain ⟨h1, rfl⟩ := valA_inv hb
    exact wp_fits hF (s := Instr.lookup t (a.eval x) (a.eval k) ok) (by simp [execOp]) (by intro c; simp) (lookup_fits hE hw (hr x) (hr k) h1) hn
  case mapUpdate t m k x =>
    split at hb
    · rename_i h1 hu; cases hb
      exact wp_fitsU hF (s := Instr.mapUpdate t (a.eval m) (a.eval k) (a.eval x)) (by simp [execOp]) (by intro c; simp) (mapUpdate_fits hE hw (hr m) (hr k) (hr x) hu) rfl hn
    · cases hb
  case insert t m k x =>
    split at hb
    · rename_i h1 hu; cases hb
      exact wp_fitsU hF (s := Instr.mapUpdate t (a.eval m) (a.eval k) (a.eval x)) (by simp [execOp]) (by intro c; simp) (mapUpdate_fits hE hw (hr m) (hr k) (hr x) hu) rfl hn
    · cases hb
  case range t x =>
    split at hb
    · rename_i kk z hk
      exact wp_fits hF (s := Instr.range t (a.eval x)) (by simp [execOp]) (by intro c; simp) (range_fits hE hw hk (hr x) hb) hn
    · cases hb
  case next it str =>
    cases str
    · exact wp_fits hF (s := Instr.next (a.eval it) false type) (by simp [execOp]) (by intro c; simp) (next_fits hw (hr it) hb) hn
    · cases hb
  case extract x i =>
    split at hb
    · rename_i vs hx
      obtain ⟨h1, rfl⟩ := valA_inv hb
      have hxx := hr x; rw [hx] at hxx
      cases he : a.eval x with
      | tuple us =>
        rw [he] at hxx
        cases hxx with
        | tup hv =>
          obtain ⟨v', h2, h3⟩ := hv.nth h1
          exact wp_pure hF hw (v' := v') (by simp [execOp, he, Instr.extract, h2]) (by intro c; simp) h3 hn
      | _ => rw [he] at hxx; cases hxx
    · cases hb
  case call c => exact call_sound hE hc hw hr hb hn
  all_goals cases hb
end
end Bly
