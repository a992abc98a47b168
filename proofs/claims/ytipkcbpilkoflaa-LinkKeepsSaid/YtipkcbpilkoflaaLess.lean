/- The function literal that the sort calls. -/
import Derived.Test.YtipkcbpilkoflaaStbl
import Derived.Deep.QuietTactic
import Derived.BigQuiet
import Derived.Shelf.GgSortFunc.SmallK
namespace Go.Proofs.Ytipkcbpilkoflaa.Stab
open Go.Shelf Go.RowKit Go.Lib Go.Sort
set_option linter.unusedVariables false

/-- An element of the row: its number, and its slice. -/
structure El where
  due : Int
  p : Option Addr
  n : Nat
  c : Nat
deriving Inhabited
def enc (x : El) : List Value := [.int .i64 x.due, .slice x.p x.n x.c]
theorem enc_len (x : El) : (enc x).length = 2 := rfl
theorem enc_one (x : El) : ∀ v ∈ enc x, v.oneCell' = true := by
  intro v hv
  simp only [enc, List.mem_cons, List.not_mem_nil, or_false] at hv
  rcases hv with rfl | rfl <;> rfl

theorem less_calls (W : World) (gb blk off n c i j : Nat) (x y : Int) (hi : i < n) (hj : j < n) (hg : W.cell? ⟨gb, 0, none⟩ = some (.slice (some ⟨blk, off, none⟩) n c))
    (hx : W.cell? ⟨blk, off + i * 2, none⟩ = some (.int .i64 x)) (hy : W.cell? ⟨blk, off + j * 2, none⟩ = some (.int .i64 y)) :
    Calls Try.prog 24 #[.int .i64 i, .int .i64 j, .pointer (some ⟨gb, 0, none⟩)] W fun e w' => e = .returned (.bool (decide (x < y))) ∧ ∃ q, w' = W.drewN q := by
  have hu := Try.underlying22
  have hu37 := Try.underlying37
  go_enter Try.func24, Try.ntmps24
  go_wp2
  go_quiet (fail)
  go_wp2
  go_ret
  exact ⟨rfl, nq, rfl⟩
theorem less_reads (w : World) (gb blk off n c : Nat) (hg : w.cell? ⟨gb, 0, none⟩ = some (.slice (some ⟨blk, off, none⟩) n c)) (hgb : gb < w.heap.size) (hne : gb ≠ blk) (d0 : Array El) (h0 : d0.size = n) (hH : HoldsK enc 2 w blk off d0) (hblk : blk < w.heap.size) :
    LessReadsK Try.prog 24 #[.pointer (some ⟨gb, 0, none⟩)] enc 2 (fun x y => decide (El.due x < El.due y)) blk off n w := fun m os dk hs i j hi hj => by
  have hh := holdsK_sortWorldK enc 2 w blk off m d0 dk os hblk hH (by rw [hs, h0])
  have hgc : (sortWorldK enc 2 w blk off m dk os).cell? ⟨gb, 0, none⟩ = some (.slice (some ⟨blk, off, none⟩) n c) := by
    rw [cell_other enc 2 w blk off dk _ ⟨m, os, rfl⟩ _ hne hgb]; exact hg
  exact less_calls _ gb blk off n c i j (El.due dk[i]!) (El.due dk[j]!) hi hj hgc (hh.cell (c := 0) (by omega) (by omega)).1 (hh.cell (c := 0) (by omega) (by omega)).1

theorem enter24 : ∀ args w, (callFunc 24 args).run Try.prog w = .ok (.enter 24 args) w := enters_of Try.func24 (by kernel_rfl) rfl
theorem swapper9 (n : Nat) (h : 2 ≤ n) : Try.prog.funcs.findIdx? (·.name == "internal/reflectlite" ++ ".Swapper$" ++ toString (swapperK n sortE 25)) = some 37 := by
  have c : (n == 0) = false := by simp; omega
  have d : (n == 1) = false := by simp; omega
  have e : swapperK n sortE 25 = 9 := by
    have e1 : (sortE.hasPointers && sortE.bytes == 8) = false := by kernel_rfl
    have e2 : (sortE.hasPointers && ((25 : Nat) == 24)) = false := by kernel_rfl
    have e3 : sortE.hasPointers = true := by kernel_rfl
    unfold swapperK
    rw [c, d, e1, e2, e3]
    rfl
  have h9 : Try.prog.funcs.findIdx? (·.name == "internal/reflectlite" ++ ".Swapper$" ++ toString 9) = some 37 := by kernel_rfl
  rw [e]; exact h9
theorem swapper_run : ∀ args W, (callFunc 37 args).run Try.prog W = ((Extern.ReflectliteSwapper.swap false args).run Try.prog W).andThen fun v w' => .ok (.value v) w' :=
  run_callFunc_extern Try.func37 (by kernel_rfl) (by kernel_rfl) (by kernel_rfl) (e := Extern.ReflectliteSwapper.swap false) (by kernel_rfl)

/-- the library's stable sort of a row of two elements or more -/
theorem sort_calls (w : World) (gb blk off n c : Nat) (d : Array El) (h0 : d.size = n) (h2 : 2 ≤ n) (hn : n < 4398046511104) (hg : w.cell? ⟨gb, 0, none⟩ = some (.slice (some ⟨blk, off, none⟩) n c)) (hgb : gb < w.heap.size) (hne : gb ≠ blk)
    (hH : HoldsK enc 2 w blk off d) (hblk : blk < w.heap.size) :
    Calls Try.prog 23 #[.iface 22 (.slice (some ⟨blk, off, none⟩) n c), .func (.func 24) #[] #[.pointer (some ⟨gb, 0, none⟩)]] w fun e w' => e = .returned (.tuple #[]) ∧ ∃ d' : Array El, d'.toList = isort El.due d.toList ∧ SWK enc 2 w blk off d' w' := by
  subst h0
  have hS := Any.sort_SliceStable_of_stable Try.laysGt8 22 37 sortT sortE (by kernel_rfl) (by kernel_rfl) (by kernel_rfl) (by kernel_rfl) 25 (fun _ => by kernel_rfl) (some ⟨blk, off, none⟩) d.size c (by omega) 37 (swapper9 d.size h2) (.func 24) #[] #[.pointer (some ⟨gb, 0, none⟩)] w
    (fun w' => ∃ d' : Array El, d'.toList = isort El.due d.toList ∧ SWK enc 2 w blk off d' w')
  change _ → Calls Try.prog 23 _ _ _ at hS
  refine hS ?_
  have hB : sliceBound Try.prog 37 sortE 25 (some ⟨blk, off, none⟩) d.size c = #[.slice (some ⟨blk, off, none⟩) d.size c, typeHandle Try.prog 37] := by
    unfold sliceBound; rw [if_neg (swapperK_gt _ _ _ h2)]
  have hW : stableWorld Try.prog Try.laysGt8_ren 22 (some ⟨blk, off, none⟩) d.size c w = grow w #[.cells #[.slice (some ⟨blk, off, none⟩) d.size c] 22, .cells #[.pointer (some ⟨Try.prog.globals.size, 22, none⟩), .pointer (some ⟨w.heap.size, 0, none⟩), .int .u64 151] (Try.laysGt8_ren.t 36)] := by
    unfold stableWorld; rw [alloc_eq_grow, alloc_eq_grow, grow_grow]; rfl
  generalize (#[.cells #[.slice (some ⟨blk, off, none⟩) d.size c] 22, .cells #[.pointer (some ⟨Try.prog.globals.size, 22, none⟩), .pointer (some ⟨w.heap.size, 0, none⟩), .int .u64 151] (Try.laysGt8_ren.t 36)] : Array Obj) = os0 at hW
  rw [hB, hW]
  have hl := less_reads w gb blk off d.size c hg hgb hne d rfl hH hblk
  have hp := stable_calls enc 2 enc_len El.due 24 #[.pointer (some ⟨gb, 0, none⟩)] 37 _ blk off d (grow w os0) enter24 (hl.grow hblk os0)
    (swapSwapsK_of_literal (P := Try.prog) false 37 swapper_run 37 sortE (by kernel_rfl) enc 2 enc_len (by kernel_rfl) (fun _ => by kernel_rfl) enc_one blk off d.size c) (holdsK_grow enc 2 w _ blk off d hblk hH) (by rw [size_grow]; omega) hn
  refine hp.mono ?_
  rintro e w' ⟨rfl, d', hd', m, os, rfl⟩
  exact ⟨rfl, d', hd', m, _, by unfold sortWorldK; rw [ahead_grow, putRowK_grow enc 2 (Sort.ahead w m) _ blk off _ hblk, grow_grow]⟩
#print axioms sort_calls
end Go.Proofs.Ytipkcbpilkoflaa.Stab
