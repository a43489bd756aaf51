import Derived.Test.YtlecbjcloleiiaaDoorKvF
/-! KernelRows: the rows that the law makes. -/
set_option linter.unusedSimpArgs false
set_option linter.unusedVariables false
namespace Go.Proofs.YtlecbjcloleiiaaDoor.Val
open Go Go.Proofs.YtlecbjcloleiiaaDoor.Ram

def shrI (a b : Int) : Int := a.fdiv (2 ^ (min b.toNat IntKind.i64.bits))
def andI (a b : Int) : Int := IntKind.i64.wrap (BitVec.ofInt IntKind.i64.bits a &&& BitVec.ofInt IntKind.i64.bits b).toNat
@[simp 1100] theorem bin_shr {a b : Int} {k : IntKind} : binV .shr (.int .i64 a) (.int k b) = if 0 ≤ b then some (.int .i64 (shrI a b)) else none := by
  simp only [bin_int, binA, shrI]; split <;> rfl
@[simp 1100] theorem bin_and {a b : Int} : binV .and (.int .i64 a) (.int .i64 b) = some (.int .i64 (andI a b)) := rfl
def bit (any i : Int) : Bool := andI (shrI any i) 1 == 1
def cName : Str := [99]
def others : List Str := [[111, 116, 104, 101, 114], [97, 114, 103, 115], [116, 104, 97, 116], [110, 111, 98, 111, 100, 121], [104, 97, 110, 100, 115], [105, 110]]
def mkRow (args : List Str) (any : Int) (j : Nat) (o : Str) : Row := ⟨cName, if bit any (j + 8) then args else others, bit any j, (j : Int).tmod 2 == 0, (j : Int).tmod 3 == 0, o, j⟩
def rowsFrom (args : List Str) (any : Int) : Nat → List Str → List Row
  | _, [] => []
  | j, o :: l => mkRow args any j o :: rowsFrom args any (j + 1) l
def hit (any : Int) (j : Nat) : Bool := bit any j || bit any (j + 8)
def atFrom (any : Int) : Int → Nat → List Str → Int
  | at', _, [] => at'
  | at', j, _ :: l => atFrom any (if at' < 0 ∧ hit any j = true then j else at') (j + 1) l
theorem v_Rows_loop0 {outs args : List Str} {any : Int} {inp : Str} {S : VH} (ha : args.length < 1000000) : ∀ (d j : Nat), j + d = args.length →
    ((∀ s ∈ args.drop j, s.length ≤ 100) ∧ loopX VT.E VT.Fl (VCall VT) c_patoislaw4_KernelRows_l0 ⟨[(0, strsV outs), (1, strsV args), (2, .int .i64 any), (3, .str inp), (10, .int .i64 j)], [], S⟩ = some (.exit 0, ⟨[(0, strsV outs), (1, strsV args), (2, .int .i64 any), (3, .str inp), (10, .int .i64 args.length), (46, .bool false)], [], S⟩)) ∨
    (∃ f, loopX VT.E VT.Fl (VCall VT) c_patoislaw4_KernelRows_l0 ⟨[(0, strsV outs), (1, strsV args), (2, .int .i64 any), (3, .str inp), (10, .int .i64 j)], [], S⟩ = some (.ret, ⟨(8, .bool true) :: f, [], S⟩)) := by
  have hK : ∀ f w h, loopX VT.E VT.Fl (VCall VT) c_patoislaw4_KernelRows_l0 ⟨f, w, h⟩ = loopX VT.E VT.Fl (VCall VT) c_patoislaw4_KernelRows_l0 ⟨VFr.keep f [0, 1, 2, 3, 10], Rts.keep w.noCell [0, 1, 2, 3, 10], h⟩ := fun _ _ _ => loopX_keep
  intro d
  induction d with
  | zero =>
    intro j hj
    obtain rfl : j = args.length := by omega
    left
    rw [loopX_eq]
    simp -implicitDefEqProofs [c_patoislaw4_KernelRows_l0, binA]
  | succ d ih =>
    intro j hj
    have h1 : j < args.length := by omega
    have hlt : (j : Int) < (args.length : Int) := by omega
    obtain ⟨x, hx, dx⟩ := next_at h1
    rw [loopX_eq, dx]
    have := ih (j + 1) (by omega)
    push_cast at this
    generalize loopX VT.E VT.Fl (VCall VT) c_patoislaw4_KernelRows_l0 = L at *
    by_cases e : 100 < x.length
    · right
      have e' : (100 : Int) < (x.length : Int) := by omega
      simp -implicitDefEqProofs [c_patoislaw4_KernelRows_l0, binA, hlt, hx, e']
    · have e' : ¬ (100 : Int) < (x.length : Int) := by omega
      have e2 : x.length ≤ 100 := by omega
      simp -implicitDefEqProofs [c_patoislaw4_KernelRows_l0, binA, hlt, hx, e', e2, wrap_succ h1 (by omega)]
      rw [hK]
      simpa using this
def ownQ (own : List Nat) : List Nat := 1 :: keepO (own.filter (· != 1)) 1 1
@[simp] theorem mem_ownQ {own : List Nat} : 1 ∈ ownQ own := List.mem_cons_self
set_option maxHeartbeats 1000000 in
theorem v_Rows_loop1 {outs args : List Str} {any : Int} {inp : Str} {k : Nat} (ho8 : outs.length ≤ 8) : ∀ (d j : Nat) (at' : Int) (out : List Row) (own : List Nat) (S : VH), j + d = outs.length → out.length = j → k < S.next → 1 ∈ own → S.get k = some (.cells [.lst 2 [], rowsV out] own) →
    ((∀ s ∈ outs.drop j, s.length ≤ 300) ∧ ∃ own', loopX VT.E VT.Fl (VCall VT) c_patoislaw4_KernelRows_l1 ⟨[(0, strsV outs), (1, strsV args), (2, .int .i64 any), (3, .str inp), (11, .ptr (some (k, 0))), (12, .int .i64 at'), (13, .int .i64 j)], [], S⟩ =
      some (.exit 2, ⟨[(0, strsV outs), (1, strsV args), (2, .int .i64 any), (3, .str inp), (11, .ptr (some (k, 0))), (12, .int .i64 (atFrom any at' j (outs.drop j))), (13, .int .i64 outs.length), (58, .bool false)], [], S.set k (.cells [.lst 2 [], rowsV (out ++ rowsFrom args any j (outs.drop j))] own')⟩)) ∨
    (∃ o f, loopX VT.E VT.Fl (VCall VT) c_patoislaw4_KernelRows_l1 ⟨[(0, strsV outs), (1, strsV args), (2, .int .i64 any), (3, .str inp), (11, .ptr (some (k, 0))), (12, .int .i64 at'), (13, .int .i64 j)], [], S⟩ = some (.ret, ⟨(8, .bool true) :: f, [], S.set k o⟩)) := by
  have hK : ∀ f w h, loopX VT.E VT.Fl (VCall VT) c_patoislaw4_KernelRows_l1 ⟨f, w, h⟩ = loopX VT.E VT.Fl (VCall VT) c_patoislaw4_KernelRows_l1 ⟨VFr.keep f [0, 1, 2, 3, 11, 12, 13], Rts.keep w.noCell [0, 1, 2, 3, 11, 12, 13], h⟩ := fun _ _ _ => loopX_keep
  intro d
  induction d with
  | zero =>
    intro j at' out own S hj ho hk hw hg
    obtain rfl : j = outs.length := by omega
    left
    have : S.set k (.cells [.lst 2 [], rowsV out] own) = S := by
      unfold VH.set; congr 1; funext j; by_cases e : j = k <;> simp [e, hg]
    refine ⟨by simp, own, ?_⟩
    rw [loopX_eq]
    simp -implicitDefEqProofs [c_patoislaw4_KernelRows_l1, binA, rowsFrom, atFrom]
    simpa [rowsV] using this.symm
  | succ d ih =>
    intro j at' out own S hj ho hk hw hg
    have h1 : j < outs.length := by omega
    have hlt : (j : Int) < (outs.length : Int) := by omega
    obtain ⟨x, hx, dx⟩ := next_at h1
    have hkn : k ≠ S.next := by omega
    have hks : ¬ S.next = k := by omega
    have hk1 : k < S.next + 1 := by omega
    have ih' := ih (j + 1) (if at' < 0 ∧ hit any j = true then j else at') (out ++ [mkRow args any j x]) (ownQ own) (S.set k (.cells [.lst 2 [], rowsV (out ++ [mkRow args any j x])] (ownQ own))) (by omega) (by simp [ho]) hk mem_ownQ (by simp)
    push_cast at ih'
    have e3 : (out.length + 1) * 72 ≤ 140737488355328 := by omega
    have c1 : IntKind.u64.wrap (j : Int) = j := Go.IntWalk.u64_in _ ⟨by omega, by omega⟩
    have c2 : IntKind.i64.wrap ((j : Int) + 8) = (j : Int) + 8 := Go.IntWalk.i64_in _ ⟨by omega, by omega⟩
    have c3 : IntKind.u64.wrap ((j : Int) + 8) = (j : Int) + 8 := Go.IntWalk.u64_in _ ⟨by omega, by omega⟩
    have c4 : (0 : Int) ≤ (j : Int) + 8 := by omega
    rw [loopX_eq, dx]
    generalize loopX VT.E VT.Fl (VCall VT) c_patoislaw4_KernelRows_l1 = L at *
    by_cases e : 300 < x.length
    · right
      have e' : (300 : Int) < (x.length : Int) := by omega
      have : S.set k (.cells [.lst 2 [], rowsV out] own) = S := by
        unfold VH.set; congr 1; funext j; by_cases e : j = k <;> simp [e, hg]
      refine ⟨.cells [.lst 2 [], rowsV out] own, ?_⟩
      simp only [this]
      simp -implicitDefEqProofs [c_patoislaw4_KernelRows_l1, binA, hlt, hx, e']
    · have e' : ¬ (300 : Int) < (x.length : Int) := by omega
      have e2 : x.length ≤ 300 := by omega
      have fin : ∀ X, L ⟨[(0, strsV outs), (1, strsV args), (2, .int .i64 any), (3, .str inp), (11, .ptr (some (k, 0))), (12, .int .i64 (if at' < 0 ∧ hit any j = true then j else at')), (13, .int .i64 ((j : Int) + 1))], [], S.set k (.cells [.lst 2 [], rowsV (out ++ [mkRow args any j x])] (ownQ own))⟩ = X →
          ((∀ s ∈ x :: outs.drop (j + 1), s.length ≤ 300) ∧ ∃ own', X = some (.exit 2, ⟨[(0, strsV outs), (1, strsV args), (2, .int .i64 any), (3, .str inp), (11, .ptr (some (k, 0))), (12, .int .i64 (atFrom any at' j (x :: outs.drop (j + 1)))), (13, .int .i64 outs.length), (58, .bool false)], [], S.set k (.cells [.lst 2 [], rowsV (out ++ rowsFrom args any j (x :: outs.drop (j + 1)))] own')⟩)) ∨
          (∃ o f, X = some (.ret, ⟨(8, .bool true) :: f, [], S.set k o⟩)) := fun X hX => by
        rcases ih' with ⟨q1, own', q2⟩ | ⟨o, f, q2⟩
        · left
          refine ⟨fun s hs => by rcases List.mem_cons.1 hs with rfl | hs; exact e2; exact q1 s hs, own', ?_⟩
          rw [← hX, q2, set_set, List.append_assoc]; rfl
        · right
          refine ⟨o, f, ?_⟩
          rw [← hX, q2, set_set]
      apply fin
      cases hb : bit any j <;> cases hb8 : bit any (j + 8) <;> by_cases h0 : at' < 0
      all_goals
        unfold bit at hb hb8
        simp -implicitDefEqProofs [c_patoislaw4_KernelRows_l1, binA, hlt, hx, e', c1, c2, c3, c4, hb, hb8, h0, hkn, hks, hk, hk1, hg, hw, e3, trim_in hk, wrap_succ h1 (by omega), hit, bit, mkRow, encRow, ownQ]
        conv => rhs; rw [hK]
        simp [rowsV, encRow, others, cName, strsV, strRow]

theorem find_rows {args : List Str} {any : Int} (ha : args.length ≤ 5) : ∀ {l : List Str} {j : Nat} {at' : Int}, at' < 0 →
    ((atFrom any at' j l = at' ∧ (rowsFrom args any j l).find? (·.fits cName args) = none) ∨
      ∃ i o, l[i]? = some o ∧ atFrom any at' j l = ((j + i : Nat) : Int) ∧ (rowsFrom args any j l).find? (·.fits cName args) = some (mkRow args any (j + i) o))
  | [], j, at', h => .inl ⟨rfl, rfl⟩
  | o :: l, j, at', h => by
    have hlate : ∀ {l : List Str} {j' : Nat} {b : Nat}, atFrom any (b : Int) j' l = b := fun {l} => by
      induction l with
      | nil => intro j' b; rfl
      | cons o l ih => intro j' b; simp only [atFrom]; rw [if_neg (by omega)]; exact ih
    have hno : args ≠ others := fun e => by rw [e] at ha; exact absurd ha (by decide)
    have hfit : (mkRow args any j o).fits cName args = hit any j := by
      simp only [Row.fits, mkRow, hit]
      cases bit any j <;> by_cases h8 : bit any (j + 8) = true <;> simp [h8, Ne.symm hno]
    simp only [rowsFrom, atFrom, List.find?_cons, hfit]
    cases hh : hit any j with
    | true =>
      right
      refine ⟨0, o, rfl, ?_, rfl⟩
      rw [if_pos ⟨h, rfl⟩, hlate]; rfl
    | false =>
      rw [if_neg (by simp)]
      rcases find_rows ha (l := l) (j := j + 1) (at' := at') h with ⟨h1, h2⟩ | ⟨i, o', h1, h2, h3⟩
      · exact .inl ⟨h1, h2⟩
      · right
        exact ⟨i + 1, o', h1, by rw [h2]; congr 1; omega, by rw [show j + (i + 1) = j + 1 + i by omega]; exact h3⟩
end Go.Proofs.YtlecbjcloleiiaaDoor.Val
