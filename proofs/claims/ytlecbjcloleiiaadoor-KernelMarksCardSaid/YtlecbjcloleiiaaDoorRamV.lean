import Derived.Test.YtlecbjcloleiiaaDoorRamU
import Derived.Test.YtlecbjcloleiiaaDoorRamP
/-! The table. By program (gen.py). -/
namespace Go.Proofs.YtlecbjcloleiiaaDoor.Ram
open Go

def entries : List (Nat × ADef) := [(3, .code a3), (4, .code a4), (5, .code a5), (6, .code a6), (8, .code a8), (9, .code a9), (10, .code a10), (11, .code a11), (12, .code a12), (13, .code a13), (14, .code a14), (15, .code a15), (16, .code a16), (17, .code a17), (18, .code a18), (19, .code a19), (20, .code a20), (21, .code a21), (22, .code a22), (23, .code a23), (27, .code a27), (34, .code a34), (36, .code a36), (37, .code a37), (38, .code a38), (39, .code a39), (40, .code a40), (41, .code a41), (42, .code a42), (43, .code a43), (44, .code a44), (45, .code a45), (46, .code a46), (47, .code a47), (48, .code a48), (49, .code a49), (50, .code a50), (51, .code a51), (54, .code a54), (55, .code a55), (59, .code a59), (60, .code a60), (61, .code a61), (62, .code a62), (63, .code a63), (64, .code a64), (65, .code a65), (66, .code a66), (67, .code a67), (68, .code a68), (71, .code a71), (72, .code a72), (80, .code a80), (81, .code a81), (82, .prim cmpP)]
def T : Tab := ⟨⟨[146]⟩, fun f => (entries.find? fun p => p.1 == f).map (·.2)⟩
theorem T3 : T.fn 3 = some (.code a3) := rfl
theorem T4 : T.fn 4 = some (.code a4) := rfl
theorem T5 : T.fn 5 = some (.code a5) := rfl
theorem T6 : T.fn 6 = some (.code a6) := rfl
theorem T8 : T.fn 8 = some (.code a8) := rfl
theorem T9 : T.fn 9 = some (.code a9) := rfl
theorem T10 : T.fn 10 = some (.code a10) := rfl
theorem T11 : T.fn 11 = some (.code a11) := rfl
theorem T12 : T.fn 12 = some (.code a12) := rfl
theorem T13 : T.fn 13 = some (.code a13) := rfl
theorem T14 : T.fn 14 = some (.code a14) := rfl
theorem T15 : T.fn 15 = some (.code a15) := rfl
theorem T16 : T.fn 16 = some (.code a16) := rfl
theorem T17 : T.fn 17 = some (.code a17) := rfl
theorem T18 : T.fn 18 = some (.code a18) := rfl
theorem T19 : T.fn 19 = some (.code a19) := rfl
theorem T20 : T.fn 20 = some (.code a20) := rfl
theorem T21 : T.fn 21 = some (.code a21) := rfl
theorem T22 : T.fn 22 = some (.code a22) := rfl
theorem T23 : T.fn 23 = some (.code a23) := rfl
theorem T27 : T.fn 27 = some (.code a27) := rfl
theorem T34 : T.fn 34 = some (.code a34) := rfl
theorem T36 : T.fn 36 = some (.code a36) := rfl
theorem T37 : T.fn 37 = some (.code a37) := rfl
theorem T38 : T.fn 38 = some (.code a38) := rfl
theorem T39 : T.fn 39 = some (.code a39) := rfl
theorem T40 : T.fn 40 = some (.code a40) := rfl
theorem T41 : T.fn 41 = some (.code a41) := rfl
theorem T42 : T.fn 42 = some (.code a42) := rfl
theorem T43 : T.fn 43 = some (.code a43) := rfl
theorem T44 : T.fn 44 = some (.code a44) := rfl
theorem T45 : T.fn 45 = some (.code a45) := rfl
theorem T46 : T.fn 46 = some (.code a46) := rfl
theorem T47 : T.fn 47 = some (.code a47) := rfl
theorem T48 : T.fn 48 = some (.code a48) := rfl
theorem T49 : T.fn 49 = some (.code a49) := rfl
theorem T50 : T.fn 50 = some (.code a50) := rfl
theorem T51 : T.fn 51 = some (.code a51) := rfl
theorem T54 : T.fn 54 = some (.code a54) := rfl
theorem T55 : T.fn 55 = some (.code a55) := rfl
theorem T59 : T.fn 59 = some (.code a59) := rfl
theorem T60 : T.fn 60 = some (.code a60) := rfl
theorem T61 : T.fn 61 = some (.code a61) := rfl
theorem T62 : T.fn 62 = some (.code a62) := rfl
theorem T63 : T.fn 63 = some (.code a63) := rfl
theorem T64 : T.fn 64 = some (.code a64) := rfl
theorem T65 : T.fn 65 = some (.code a65) := rfl
theorem T66 : T.fn 66 = some (.code a66) := rfl
theorem T67 : T.fn 67 = some (.code a67) := rfl
theorem T68 : T.fn 68 = some (.code a68) := rfl
theorem T71 : T.fn 71 = some (.code a71) := rfl
theorem T72 : T.fn 72 = some (.code a72) := rfl
theorem T80 : T.fn 80 = some (.code a80) := rfl
theorem T81 : T.fn 81 = some (.code a81) := rfl
theorem T82 : T.fn 82 = some (.prim cmpP) := rfl
theorem okEntries : ∀ p ∈ entries, match p.2 with
    | .code F => ∃ fn, Tryd.prog.funcs[p.1]? = some fn ∧ okFun Tryd.prog gl fn F = true
    | .prim q => OSound Tryd.prog gl (fun g vs H => if g = p.1 then q vs H else none) ∧ ∀ vs H r, q vs H = some r → H.next ≤ r.2.next := by
  unfold entries
  simp only [List.forall_mem_cons]
  exact ⟨⟨_, Tryd.func3, ok3⟩, ⟨_, Tryd.func4, ok4⟩, ⟨_, Tryd.func5, ok5⟩, ⟨_, Tryd.func6, ok6⟩, ⟨_, Tryd.func8, ok8⟩, ⟨_, Tryd.func9, ok9⟩, ⟨_, Tryd.func10, ok10⟩, ⟨_, Tryd.func11, ok11⟩, ⟨_, Tryd.func12, ok12⟩, ⟨_, Tryd.func13, ok13⟩, ⟨_, Tryd.func14, ok14⟩, ⟨_, Tryd.func15, ok15⟩, ⟨_, Tryd.func16, ok16⟩, ⟨_, Tryd.func17, ok17⟩, ⟨_, Tryd.func18, ok18⟩, ⟨_, Tryd.func19, ok19⟩, ⟨_, Tryd.func20, ok20⟩, ⟨_, Tryd.func21, ok21⟩, ⟨_, Tryd.func22, ok22⟩, ⟨_, Tryd.func23, ok23⟩, ⟨_, Tryd.func27, ok27⟩, ⟨_, Tryd.func34, ok34⟩, ⟨_, Tryd.func36, ok36⟩, ⟨_, Tryd.func37, ok37⟩, ⟨_, Tryd.func38, ok38⟩, ⟨_, Tryd.func39, ok39⟩, ⟨_, Tryd.func40, ok40⟩, ⟨_, Tryd.func41, ok41⟩, ⟨_, Tryd.func42, ok42⟩, ⟨_, Tryd.func43, ok43⟩, ⟨_, Tryd.func44, ok44⟩, ⟨_, Tryd.func45, ok45⟩, ⟨_, Tryd.func46, ok46⟩, ⟨_, Tryd.func47, ok47⟩, ⟨_, Tryd.func48, ok48⟩, ⟨_, Tryd.func49, ok49⟩, ⟨_, Tryd.func50, ok50⟩, ⟨_, Tryd.func51, ok51⟩, ⟨_, Tryd.func54, ok54⟩, ⟨_, Tryd.func55, ok55⟩, ⟨_, Tryd.func59, ok59⟩, ⟨_, Tryd.func60, ok60⟩, ⟨_, Tryd.func61, ok61⟩, ⟨_, Tryd.func62, ok62⟩, ⟨_, Tryd.func63, ok63⟩, ⟨_, Tryd.func64, ok64⟩, ⟨_, Tryd.func65, ok65⟩, ⟨_, Tryd.func66, ok66⟩, ⟨_, Tryd.func67, ok67⟩, ⟨_, Tryd.func68, ok68⟩, ⟨_, Tryd.func71, ok71⟩, ⟨_, Tryd.func72, ok72⟩, ⟨_, Tryd.func80, ok80⟩, ⟨_, Tryd.func81, ok81⟩, cmpPOk, fun p hp => absurd hp (by simp)⟩
theorem tabOk : TabOk Tryd.prog gl T where
  env := by kernel_rfl
  code := fun f F h => by
    simp only [T, Option.map_eq_some_iff] at h
    obtain ⟨p, h1, h2⟩ := h
    have h3 := okEntries p (List.mem_of_find?_eq_some h1)
    have h4 := List.find?_some h1
    obtain rfl : p.1 = f := by simpa using h4
    rw [h2] at h3
    exact h3
  prim := fun f q h => by
    simp only [T, Option.map_eq_some_iff] at h
    obtain ⟨p, h1, h2⟩ := h
    have h3 := okEntries p (List.mem_of_find?_eq_some h1)
    have h4 := List.find?_some h1
    obtain rfl : p.1 = f := by simpa using h4
    rw [h2] at h3
    exact h3
end Go.Proofs.YtlecbjcloleiiaaDoor.Ram
