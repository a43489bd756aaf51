import Derived.Test.YtlecbjcloleiiaaDoorRamM
/-! The machine as a program that the kernel may run: 'callC'; what it answers 'Call' answers. A closed call as a prim. -/
namespace Go.Proofs.YtlecbjcloleiiaaDoor.Ram
open Go Go.RowKit

mutual
def AV.beq : AV → AV → Bool
  | .int k n, .int k' n' => decide (k = k') && decide (n = n')
  | .bool a, .bool b => a == b
  | .str a, .str b => decide (a = b)
  | .ptr a, .ptr b => decide (a = b)
  | .sl a b c d, .sl a' b' c' d' => decide (a = a') && decide (b = b') && decide (c = c') && decide (d = d')
  | .map a, .map b => decide (a = b)
  | .fn f l, .fn f' l' => decide (f = f') && AV.beqs l l'
  | .nilFn, .nilFn => true
  | .nilI, .nilI => true
  | .ifc t v, .ifc t' v' => decide (t = t') && AV.beq v v'
  | .agg l, .agg l' => AV.beqs l l'
  | .tup l, .tup l' => AV.beqs l l'
  | _, _ => false
def AV.beqs : List AV → List AV → Bool
  | [], [] => true
  | x :: l, y :: l' => AV.beq x y && AV.beqs l l'
  | _, _ => false
end
mutual
theorem AV.eq_of_beq : ∀ {x y : AV}, AV.beq x y = true → x = y := by
  intro x y h
  cases x <;> cases y <;> simp only [AV.beq, Bool.and_eq_true, decide_eq_true_eq, beq_iff_eq] at h <;> first | (cases h; done) | skip
  · obtain ⟨rfl, rfl⟩ := h; rfl
  · subst h; rfl
  · subst h; rfl
  · subst h; rfl
  · obtain ⟨⟨⟨rfl, rfl⟩, rfl⟩, rfl⟩ := h; rfl
  · subst h; rfl
  · obtain ⟨rfl, h⟩ := h; rw [AV.eq_of_beqs h]
  · rfl
  · rfl
  · obtain ⟨rfl, h⟩ := h; rw [AV.eq_of_beq h]
  · rw [AV.eq_of_beqs h]
  · rw [AV.eq_of_beqs h]
theorem AV.eq_of_beqs : ∀ {x y : List AV}, AV.beqs x y = true → x = y := by
  intro x y h
  cases x <;> cases y <;> simp only [AV.beqs, Bool.and_eq_true] at h <;> first | (cases h; done) | skip
  · rfl
  · obtain ⟨h1, h2⟩ := h
    rw [AV.eq_of_beq h1, AV.eq_of_beqs h2]
end
def optBeq : Option AV → Option AV → Bool
  | none, none => true
  | some x, some y => AV.beq x y
  | _, _ => false
theorem eq_of_optBeq {x y : Option AV} (h : optBeq x y = true) : x = y := by
  cases x <;> cases y <;> simp only [optBeq] at h <;> first | (cases h; done) | skip
  · rfl
  · rw [AV.eq_of_beq h]

def sameReadB (E : Env) (fr : Fr) (H H' : AH) (r : AOper) : Bool := match wantedA fr r.guard with
  | some false => true
  | some true => optBeq (readA E fr H' r.op) (readA E fr H r.op)
  | none => false
theorem sameRead_of {E : Env} {fr : Fr} {H H' : AH} {r : AOper} (h : sameReadB E fr H H' r = true) : sameRead E fr H H' r := by
  unfold sameReadB at h
  split at h
  · rename_i e; exact .inl e
  · rename_i e; exact .inr ⟨e, eq_of_optBeq h⟩
  · cases h
def dregC (E : Env) (O : Oracle) (all : List DOp) : List DOp → Fr × AH → Option (Fr × AH)
  | [], st => some st
  | d :: l, st => (stepA E O d.o st).bind fun st' =>
    if (d.chk.all fun j => match findD all j with | some r => sameReadB E st.1 st.2 st'.2 r | none => true) = true then dregC E O all l st' else none
theorem dregC_sound {E : Env} {O : Oracle} {all : List DOp} : ∀ {l : List DOp} {st st' : St}, dregC E O all l st = some st' → dregA E O all l st = some st'
  | [], _, _, h => h
  | d :: l, st, st', h => by
    simp only [dregC, dregA, Option.bind_eq_some_iff] at h ⊢
    obtain ⟨s1, h1, h2⟩ := h
    refine ⟨s1, h1, ?_⟩
    split at h2
    · rename_i hc
      rw [if_pos (fun j hj r hr => ?_)]
      · exact dregC_sound h2
      · have := List.all_eq_true.1 hc j hj
        rw [hr] at this
        exact sameRead_of this
    · cases h2
def aexecC (E : Env) (O : Oracle) (n : Nat) : ACode → St → Res
  | .skip, st => some (.norm, st)
  | .reg ops, st => (opsA E O ops st).map fun s => (.norm, s)
  | .dreg ops, st => (dregC E O ops ops st).map fun s => (.norm, s)
  | .keep l c, st => aexecC E O n c (Fr.keep st.1 l, st.2)
  | .seq a b, st => seqR (aexecC E O n a st) (aexecC E O n b)
  | .cond c a b, st => condR (c.ev st.1) (aexecC E O n a st) (aexecC E O n b st)
  | .block id b, st => blockR id (aexecC E O n b st)
  | .loop b, st => loopN (aexecC E O n b) n st
  | .exit id, st => some (.exit id, st)
  | .ret, st => some (.ret, st)
  | .bad, _ => none
theorem aexecC_sound {E : Env} {O : Oracle} {n : Nat} {c : ACode} : ∀ {st : St} {r : AEx × St}, aexecC E O n c st = some r → aexec E O n c st = some r := by
  induction c with
  | skip => intro st r hr; exact hr
  | reg ops => intro st r hr; exact hr
  | dreg ops => intro st r hr; simp only [aexecC, aexec, Option.map_eq_some_iff] at hr ⊢; obtain ⟨x, hx, e⟩ := hr; exact ⟨x, dregC_sound hx, e⟩
  | keep l c ih => intro st r hr; simp only [aexecC, aexec] at hr ⊢; exact ih hr
  | seq a b iha ihb =>
    intro st r hr
    simp only [aexecC, aexec] at hr ⊢
    rw [seqR_some] at hr ⊢
    rcases hr with ⟨s, h1, h2⟩ | ⟨h1, h2⟩
    · exact .inl ⟨s, iha h1, ihb h2⟩
    · exact .inr ⟨iha h1, h2⟩
  | cond c a b iha ihb =>
    intro st r hr
    simp only [aexecC, aexec, condR] at hr ⊢
    split at hr
    · exact iha hr
    · exact ihb hr
    · cases hr
  | block id b ih =>
    intro st r hr
    simp only [aexecC, aexec] at hr ⊢
    cases hs : aexecC E O n b st with
    | none => rw [hs] at hr; cases hr
    | some p => rw [hs] at hr; rw [ih hs]; exact hr
  | loop b ih => intro st r hr; simp only [aexecC, aexec] at hr ⊢; exact loopN_mono (fun st r => ih) (Nat.le_refl n) hr
  | exit id => intro st r hr; exact hr
  | ret => intro st r hr; exact hr
  | bad => intro st r hr; cases hr
def afunC (E : Env) (O : Oracle) (n : Nat) (F : AFun) (args : List AV) (H : AH) : Option (AV × AH) :=
  if args.length = F.np then finA F (aexecC E O n F.body (frOf args, H)) else none
def callC (T : Tab) : Nat → Oracle
  | 0, _, _, _ => none
  | n + 1, f, args, H => match T.fn f with
    | none => none
    | some (.prim p) => p args H
    | some (.code F) => afunC T.E (callC T n) n F args H
theorem afunC_sound {E : Env} {O O' : Oracle} (h : OLe O O') {n : Nat} {F : AFun} {args : List AV} {H : AH} {r : AV × AH} (hr : afunC E O n F args H = some r) : afun E O' n F args H = some r := by
  unfold afunC at hr
  split at hr
  · rename_i hl
    refine afun_mono (n := n) h (Nat.le_refl n) ?_
    unfold afun
    rw [if_pos hl]
    cases hs : aexecC E O n F.body (frOf args, H) with
    | none => rw [hs] at hr; cases hr
    | some p => rw [hs] at hr; rw [aexecC_sound hs]; exact hr
  · cases hr
theorem callC_sound {T : Tab} : ∀ {n f : Nat} {vs : List AV} {H : AH} {r : AV × AH}, callC T n f vs H = some r → callN T n f vs H = some r := by
  intro n
  induction n with
  | zero => intro f vs H r h; cases h
  | succ n ih =>
    intro f vs H r h
    unfold callC at h
    unfold callN
    cases hd : T.fn f with
    | none => rw [hd] at h; cases h
    | some d =>
      rw [hd] at h
      cases d with
      | prim p => exact h
      | code F => exact afunC_sound (fun _ _ _ _ h => ih h) h
theorem Call_of_callC {T : Tab} {n f : Nat} {vs : List AV} {H : AH} {r : AV × AH} (h : callC T n f vs H = some r) : Call T f vs H = some r := Call_iff.2 ⟨n, callC_sound h⟩

/-- A heap with nothing in it (but the globals' numbers). -/
def H00 (k : Nat) : AH := { next := k, get := fun _ => none }
/-- A call without arguments whose answer holds no number of a block, run once from an empty heap: so it answers ahead of any heap, and nothing that was there is touched. -/
theorem closed_sound {P : Program} {G : List Nat} {T : Tab} (hT : TabOk P G T) {f k : Nat} {v : AV} {H1 : AH} (hk : ∀ g ∈ G, g < k) (hv : ∀ (m m' : LMap) c, VR m v c → VR m' v c) (h : Call T f [] (H00 k) = some (v, H1))
    {m : LMap} {H : AH} {w : World} (hG : GOk G m) (hh : HR m H w) : Callable P f ∧ Calls P f #[] w fun e w' => ∃ cv m', e = .returned cv ∧ VR m' v cv ∧ HR m' H w' ∧ Ext m H w m' H w' := by
  have hG0 : GOk G (fun i => if i ∈ G then m i else none) := fun g hg => by
    obtain ⟨n, hn⟩ := hG g hg
    exact ⟨n, by simp [hg, hn]⟩
  have hh0 : HR (fun i => if i ∈ G then m i else none) (H00 k) w := by
    refine ⟨fun i _ => rfl, fun i loc hi => ?_, fun i loc o _ ho => (by cases ho), fun i j li lj oi oj _ _ ho _ _ => (by cases ho), fun j ht => (by cases ht), fun j lj l ht => (by cases ht)⟩
    split at hi
    · rename_i hg; exact ⟨hk i hg, (hh.dom i loc hi).2⟩
    · cases hi
  obtain ⟨n, hn⟩ := Call_iff.1 h
  obtain ⟨h1, h2⟩ := callN_sound hT n f [] _ _ hn _ w #[] hG0 hh0 (by simp [VRs])
  refine ⟨h1, h2.mono ?_⟩
  rintro e w' ⟨cv, m', rfl, h3, h4, h5⟩
  have hfr : ∀ b, b < w.heap.size → w'.heap[b]? = w.heap[b]? := fun b hb => h5.frame b hb (fun hm => by obtain ⟨i, loc, o, _, ho, _⟩ := hm; cases ho)
  refine ⟨cv, m, rfl, hv _ _ _ h3, ?_, ?_⟩
  · exact ⟨hh.wf, fun i loc hi => ⟨(hh.dom i loc hi).1, Nat.lt_of_lt_of_le (hh.dom i loc hi).2 h5.size⟩, fun i loc o hi ho => (hh.ok i loc o hi ho).mono (fun _ _ h => h) (hfr _ (hh.dom i loc hi).2), hh.sep, hh.tipo, fun j lj l ht hj hl => by
      obtain ⟨⟨c, e, hc⟩, h2⟩ := hh.tip j lj l ht hj hl
      exact ⟨⟨c, e, (hfr _ (hh.dom j lj hj).2).trans hc⟩, h2⟩⟩
  · exact { Ext.refl m H w with frame := fun b hb _ => hfr b hb, size := h5.size, os := h5.os, tape := h5.tape, output := h5.output }
end Go.Proofs.YtlecbjcloleiiaaDoor.Ram
