/-
  DERIVED. GIVEN WITH THE SEED: THE PROGRAM's TIES (one call each: nine closed facts by the kernel) AND EACH ROW's TIE, after the 31st guide's Derived/Test/Toyas{Tie, Card}.lean. No idea stands in it: it is a product of the set-up. Laid BY PROGRAM, IN A SANDBOX (cutbox-door.mjs). By AI agents, Wed Nov 11 2026. No macro, syntax, notation, axiom, sorry.
-/
import Derived.Test.YtlecbjcloleiiaaDoorRows
import Derived.LaidByTextLater
import Derived.SevenTiedAt
import Derived.LaidSub
import Derived.LaidOnce
namespace Go.Proofs.YtlecbjcloleiiaaDoor
open Go
set_option maxRecDepth 100000
theorem seatTie1 : Tryd.prog.laidByTextLater [("patois/api.ErrLong", Rows.laid_patois_api_ErrLong), ("patois/api.ErrNest", Rows.laid_patois_api_ErrNest), ("patois/api.ErrQuote", Rows.laid_patois_api_ErrQuote), ("patois/api.ErrParen", Rows.laid_patois_api_ErrParen), ("patois/api.ErrBrace", Rows.laid_patois_api_ErrBrace), ("patois/api.ErrName", Rows.laid_patois_api_ErrName), ("patois/api.ErrToken", Rows.laid_patois_api_ErrToken), ("patois/api.ErrForm", Rows.laid_patois_api_ErrForm), ("patois/api.ErrEnd", Rows.laid_patois_api_ErrEnd), ("patois/api.ErrNode", Rows.laid_patois_api_ErrNode), ("patois/api.ErrMany", Rows.laid_patois_api_ErrMany), ("patois/api.ErrFuel", Rows.laid_patois_api_ErrFuel), ("patois/api.ErrDeep", Rows.laid_patois_api_ErrDeep), ("patois/api.ErrBig", Rows.laid_patois_api_ErrBig), ("patois/api.ErrSay", Rows.laid_patois_api_ErrSay), ("patois/api.ErrCode", Rows.laid_patois_api_ErrCode), ("patois/api.ErrNumber", Rows.laid_patois_api_ErrNumber)] [.sentinel, .sentinel, .sentinel, .sentinel, .sentinel, .sentinel, .sentinel, .sentinel, .sentinel, .sentinel, .sentinel, .sentinel, .sentinel, .sentinel, .sentinel, .sentinel, .sentinel] true :=
  Program.laidByTextLater_by_one 332 8 2 (by kernel_rfl) (by kernel_rfl) (by kernel_rfl) (by kernel_rfl) (by kernel_rfl) (by kernel_rfl) (fun _ _ => by kernel_rfl)
theorem noOwnUnsafe : Tryd.pinned.checked.prog.headLifts.contains "ownunsafe" = false := by kernel_rfl
theorem tie : Tryd.prog.laidByTextLater [("patois/api.ErrLong", Rows.laid_patois_api_ErrLong), ("patois/api.ErrName", Rows.laid_patois_api_ErrName), ("patois/api.ErrMany", Rows.laid_patois_api_ErrMany), ("patois/api.ErrBig", Rows.laid_patois_api_ErrBig), ("patois/api.ErrNumber", Rows.laid_patois_api_ErrNumber)] [.sentinel, .sentinel, .sentinel, .sentinel, .sentinel] true :=
  Program.laidByTextLater.sub seatTie1 ["patois/api.ErrLong", "patois/api.ErrName", "patois/api.ErrMany", "patois/api.ErrBig", "patois/api.ErrNumber"] (by kernel_rfl) (by kernel_rfl)
theorem kernelFiles_row_tie : Rows.kernelFilesRow.laidByTextAt .later Tryd.pinned [.sentinel, .sentinel, .sentinel, .sentinel, .sentinel] true :=
  OpenClaim.laidByTextAt_later rfl rfl tie noOwnUnsafe
theorem kernelOwn_row_tie : Rows.kernelOwnRow.laidByTextAt .later Tryd.pinned [.sentinel, .sentinel, .sentinel, .sentinel, .sentinel] true :=
  OpenClaim.laidByTextAt_later rfl rfl tie noOwnUnsafe
theorem kernelRows_row_tie : Rows.kernelRowsRow.laidByTextAt .later Tryd.pinned [.sentinel, .sentinel, .sentinel, .sentinel, .sentinel] true :=
  OpenClaim.laidByTextAt_later rfl rfl tie noOwnUnsafe
theorem kernelMarks_row_tie : Rows.kernelMarksRow.laidByTextAt .later Tryd.pinned [.sentinel, .sentinel, .sentinel, .sentinel, .sentinel] true :=
  OpenClaim.laidByTextAt_later rfl rfl tie noOwnUnsafe
theorem kernelBegins_row_tie : Rows.kernelBeginsRow.laidByTextAt .later Tryd.pinned [.sentinel, .sentinel, .sentinel, .sentinel, .sentinel] true :=
  OpenClaim.laidByTextAt_later rfl rfl tie noOwnUnsafe
theorem tie2 : Tryd.prog.laidByTextLater [("patois/api.ErrLong", Rows.laid_patois_api_ErrLong), ("patois/api.ErrNest", Rows.laid_patois_api_ErrNest), ("patois/api.ErrQuote", Rows.laid_patois_api_ErrQuote), ("patois/api.ErrParen", Rows.laid_patois_api_ErrParen), ("patois/api.ErrBrace", Rows.laid_patois_api_ErrBrace), ("patois/api.ErrName", Rows.laid_patois_api_ErrName), ("patois/api.ErrToken", Rows.laid_patois_api_ErrToken), ("patois/api.ErrForm", Rows.laid_patois_api_ErrForm), ("patois/api.ErrEnd", Rows.laid_patois_api_ErrEnd), ("patois/api.ErrNode", Rows.laid_patois_api_ErrNode), ("patois/api.ErrMany", Rows.laid_patois_api_ErrMany), ("patois/api.ErrFuel", Rows.laid_patois_api_ErrFuel), ("patois/api.ErrDeep", Rows.laid_patois_api_ErrDeep), ("patois/api.ErrBig", Rows.laid_patois_api_ErrBig), ("patois/api.ErrSay", Rows.laid_patois_api_ErrSay), ("patois/api.ErrCode", Rows.laid_patois_api_ErrCode), ("patois/api.ErrNumber", Rows.laid_patois_api_ErrNumber)] [.sentinel, .sentinel, .sentinel, .sentinel, .sentinel, .sentinel, .sentinel, .sentinel, .sentinel, .sentinel, .sentinel, .sentinel, .sentinel, .sentinel, .sentinel, .sentinel, .sentinel] true :=
  Program.laidByTextLater.sub seatTie1 ["patois/api.ErrLong", "patois/api.ErrNest", "patois/api.ErrQuote", "patois/api.ErrParen", "patois/api.ErrBrace", "patois/api.ErrName", "patois/api.ErrToken", "patois/api.ErrForm", "patois/api.ErrEnd", "patois/api.ErrNode", "patois/api.ErrMany", "patois/api.ErrFuel", "patois/api.ErrDeep", "patois/api.ErrBig", "patois/api.ErrSay", "patois/api.ErrCode", "patois/api.ErrNumber"] (by kernel_rfl) (by kernel_rfl)
theorem kernelPlays_row_tie : Rows.kernelPlaysRow.laidByTextAt .later Tryd.pinned [.sentinel, .sentinel, .sentinel, .sentinel, .sentinel, .sentinel, .sentinel, .sentinel, .sentinel, .sentinel, .sentinel, .sentinel, .sentinel, .sentinel, .sentinel, .sentinel, .sentinel] true :=
  OpenClaim.laidByTextAt_later rfl rfl tie2 noOwnUnsafe
theorem kernelFilesUpto_row_tie : Rows.kernelFilesUptoRow.laidByTextAt .later Tryd.pinned [.sentinel, .sentinel, .sentinel, .sentinel, .sentinel] true :=
  OpenClaim.laidByTextAt_later rfl rfl tie noOwnUnsafe
theorem kernelOwnUpto_row_tie : Rows.kernelOwnUptoRow.laidByTextAt .later Tryd.pinned [.sentinel, .sentinel, .sentinel, .sentinel, .sentinel] true :=
  OpenClaim.laidByTextAt_later rfl rfl tie noOwnUnsafe
theorem kernelRowsUpto_row_tie : Rows.kernelRowsUptoRow.laidByTextAt .later Tryd.pinned [.sentinel, .sentinel, .sentinel, .sentinel, .sentinel] true :=
  OpenClaim.laidByTextAt_later rfl rfl tie noOwnUnsafe
theorem kernelMarksUpto_row_tie : Rows.kernelMarksUptoRow.laidByTextAt .later Tryd.pinned [.sentinel, .sentinel, .sentinel, .sentinel, .sentinel] true :=
  OpenClaim.laidByTextAt_later rfl rfl tie noOwnUnsafe
theorem kernelPlaysUpto_row_tie : Rows.kernelPlaysUptoRow.laidByTextAt .later Tryd.pinned [.sentinel, .sentinel, .sentinel, .sentinel, .sentinel, .sentinel, .sentinel, .sentinel, .sentinel, .sentinel, .sentinel, .sentinel, .sentinel, .sentinel, .sentinel, .sentinel, .sentinel] true :=
  OpenClaim.laidByTextAt_later rfl rfl tie2 noOwnUnsafe
theorem kernelBeginsUpto_row_tie : Rows.kernelBeginsUptoRow.laidByTextAt .later Tryd.pinned [.sentinel, .sentinel, .sentinel, .sentinel, .sentinel] true :=
  OpenClaim.laidByTextAt_later rfl rfl tie noOwnUnsafe
end Go.Proofs.YtlecbjcloleiiaaDoor
