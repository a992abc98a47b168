/- A contract of the library's stable sort over a slice of no more than one element: it makes new memory alone; and the shelf's table of numbers at this dump. -/
import Derived.Ground.GgtProg
import Derived.Shelf.GgSortMore.Stable
import Derived.Test.YtipkcbpilkoflaaProg
import Derived.Below
import Derived.KernelRfl
namespace Go.Proofs.Ytipkcbpilkoflaa
open Go.Shelf Go.RowKit Go.Lib Go.Sort

def Try.laysGt8_ren : Go.Shelf.Ren := ⟨fun | 8 => 23 | 13 => 25 | 14 => 26 | 16 => 28 | 15 => 27 | 29 => 38 | 30 => 39 | 42 => 40 | 49 => 41 | n => n, fun | 20 => 20 | 26 => 53 | 36 => 58 | 0 => 0 | 38 => 60 | 42 => 64 | 3 => 3 | 4 => 4 | 47 => 54 | 17 => 17 | 33 => 55 | 34 => 56 | 89 => 85 | 12 => 12 | 56 => 77 | 82 => 78 | 5 => 5 | 83 => 79 | 84 => 80 | 85 => 81 | 86 => 82 | 87 => 83 | n => n, fun | n => n⟩
theorem Try.laysGt8 : Go.Proofs.LaysGt.n8 Try.prog Try.laysGt8_ren := {
  mixed := by kernel_rfl
  f8 := Try.func23.trans (congrArg some (by kernel_rfl))
  f13 := Try.func25.trans (congrArg some (by kernel_rfl))
  f14 := Try.func26.trans (congrArg some (by kernel_rfl))
  f15 := Try.func27.trans (congrArg some (by kernel_rfl))
  f16 := Try.func28.trans (congrArg some (by kernel_rfl))
  f29 := Try.func38.trans (congrArg some (by kernel_rfl))
  f30 := Try.func39.trans (congrArg some (by kernel_rfl))
  f42 := Try.func40.trans (congrArg some (by kernel_rfl))
  f49 := Try.func41.trans (congrArg some (by kernel_rfl))
  t0 := Try.underlying0
  a0 := Try.isAgg0
  z0 := Try.sizeOf0
  v0 := Try.zeroValue0
  i0 := by kernel_rfl
  t3 := Try.underlying3
  a3 := Try.isAgg3
  z3 := Try.sizeOf3
  v3 := Try.zeroValue3
  i3 := by kernel_rfl
  t4 := Try.underlying4
  a4 := Try.isAgg4
  z4 := Try.sizeOf4
  v4 := Try.zeroValue4
  i4 := by kernel_rfl
  t5 := Try.underlying5
  a5 := Try.isAgg5
  z5 := Try.sizeOf5
  v5 := Try.zeroValue5
  i5 := by kernel_rfl
  t12 := Try.underlying12
  a12 := Try.isAgg12
  z12 := Try.sizeOf12
  v12 := Try.zeroValue12
  i12 := by kernel_rfl
  t17 := Try.underlying17
  a17 := Try.isAgg17
  z17 := Try.sizeOf17
  v17 := Try.zeroValue17
  i17 := by kernel_rfl
  t20 := Try.underlying20
  a20 := Try.isAgg20
  z20 := Try.sizeOf20
  v20 := Try.zeroValue20
  i20 := by kernel_rfl
  t26 := Try.underlying53
  a26 := Try.isAgg53
  z26 := Try.sizeOf53
  v26 := Try.zeroValue53
  i26 := by kernel_rfl
  t33 := Try.underlying55
  a33 := Try.isAgg55
  z33 := Try.sizeOf55
  v33 := Try.zeroValue55
  i33 := by kernel_rfl
  t34 := Try.underlying56
  a34 := Try.isAgg56
  z34 := Try.sizeOf56
  v34 := Try.zeroValue56
  i34 := by kernel_rfl
  t36 := Try.underlying58
  a36 := Try.isAgg58
  z36 := Try.sizeOf58
  v36 := Try.zeroValue58
  i36 := by kernel_rfl
  t38 := Try.underlying60
  a38 := Try.isAgg60
  z38 := Try.sizeOf60
  v38 := Try.zeroValue60
  i38 := by kernel_rfl
  t42 := Try.underlying64
  a42 := Try.isAgg64
  z42 := Try.sizeOf64
  v42 := Try.zeroValue64
  i42 := by kernel_rfl
  t47 := Try.underlying54
  a47 := Try.isAgg54
  z47 := Try.sizeOf54
  v47 := Try.zeroValue54
  i47 := by kernel_rfl
  t56 := Try.underlying77
  a56 := Try.isAgg77
  z56 := Try.sizeOf77
  v56 := Try.zeroValue77
  i56 := by kernel_rfl
  t82 := Try.underlying78
  a82 := Try.isAgg78
  z82 := Try.sizeOf78
  v82 := Try.zeroValue78
  i82 := by kernel_rfl
  t83 := Try.underlying79
  a83 := Try.isAgg79
  z83 := Try.sizeOf79
  v83 := Try.zeroValue79
  i83 := by kernel_rfl
  t84 := Try.underlying80
  a84 := Try.isAgg80
  z84 := Try.sizeOf80
  v84 := Try.zeroValue80
  i84 := by kernel_rfl
  t85 := Try.underlying81
  a85 := Try.isAgg81
  z85 := Try.sizeOf81
  v85 := Try.zeroValue81
  i85 := by kernel_rfl
  t86 := Try.underlying82
  a86 := Try.isAgg82
  z86 := Try.sizeOf82
  v86 := Try.zeroValue82
  i86 := by kernel_rfl
  t87 := Try.underlying83
  a87 := Try.isAgg83
  z87 := Try.sizeOf83
  v87 := Try.zeroValue83
  i87 := by kernel_rfl
  t89 := Try.underlying85
  a89 := Try.isAgg85
  z89 := Try.sizeOf85
  v89 := Try.zeroValue85
  i89 := by kernel_rfl }

noncomputable def sortT : TypeInfo := (Try.prog.info? 22).get (by kernel_rfl)
noncomputable def sortE : TypeInfo := (Try.prog.info? 37).get (by kernel_rfl)
theorem below_grow' (w : World) (os : Array Obj) : Below w.heap.size w (grow w os) :=
  ⟨rfl, rfl, rfl, by rw [size_grow]; omega, fun k hk => by unfold grow; simp [Array.getElem?_append, hk]⟩
theorem sortTiny (p : Option Addr) (n c : Nat) (hn : n ≤ 1) (lf : Fn) (la lb : Array Value) (w : World) :
    Calls Try.prog 23 #[.iface 22 (.slice p n c), .func lf la lb] w fun e w' => e = .returned (.tuple #[]) ∧ Below w.heap.size w w' := by
  have h : ∃ f, Try.prog.funcs.findIdx? (·.name == "internal/reflectlite" ++ ".Swapper$" ++ toString (swapperK n sortE 25)) = some f := by
    have : n = 0 ∨ n = 1 := by omega
    rcases this with rfl | rfl
    · exact ⟨29, by kernel_rfl⟩
    · exact ⟨30, by kernel_rfl⟩
  obtain ⟨f, hf⟩ := h
  have hS := Any.sort_SliceStable_tiny Try.laysGt8 22 37 sortT sortE (by kernel_rfl) (by kernel_rfl) (by kernel_rfl) (by kernel_rfl) 25 (fun _ => by kernel_rfl) p n c hn f hf lf la lb w
  change Calls Try.prog 23 _ _ _ at hS
  refine hS.mono ?_
  rintro e w' ⟨rfl, os, rfl⟩
  exact ⟨rfl, below_grow' w os⟩
end Go.Proofs.Ytipkcbpilkoflaa
