/- It is proved that the program's types are laid out as the reading of values asks, part by part. Conditions: none. -/
import Derived.Test.YthglnebobkpioaaGreatDoorProg
import Derived.KernelRfl
import Derived.ChangeBookTie2
open Go
namespace Go.Proofs.YthglnebobkpioaaGreatDoor
theorem part_of {p : Nat → Bool} {a k : Nat} (h : (List.range' a k).all p = true) (x : Nat) (h1 : a ≤ x) (h2 : x < a + k) : p x = true :=
  List.all_eq_true.1 h x (by rw [List.mem_range'_1]; exact ⟨h1, h2⟩)
theorem laid_part0 : (List.range' 0 40).all (rowFine Tryz.prog) = true := by kernel_rfl
theorem laid_part1 : (List.range' 40 40).all (rowFine Tryz.prog) = true := by kernel_rfl
theorem laid_part2 : (List.range' 80 40).all (rowFine Tryz.prog) = true := by kernel_rfl
theorem laid_part3 : (List.range' 120 40).all (rowFine Tryz.prog) = true := by kernel_rfl
theorem laid_part4 : (List.range' 160 40).all (rowFine Tryz.prog) = true := by kernel_rfl
theorem laid_part5 : (List.range' 200 40).all (rowFine Tryz.prog) = true := by kernel_rfl
theorem laid_part6 : (List.range' 240 40).all (rowFine Tryz.prog) = true := by kernel_rfl
theorem laid_part7 : (List.range' 280 40).all (rowFine Tryz.prog) = true := by kernel_rfl
theorem laid_part8 : (List.range' 320 40).all (rowFine Tryz.prog) = true := by kernel_rfl
theorem laid_part9 : (List.range' 360 40).all (rowFine Tryz.prog) = true := by kernel_rfl
theorem laid_part10 : (List.range' 400 40).all (rowFine Tryz.prog) = true := by kernel_rfl
theorem laid_part11 : (List.range' 440 40).all (rowFine Tryz.prog) = true := by kernel_rfl
theorem laid_part12 : (List.range' 480 40).all (rowFine Tryz.prog) = true := by kernel_rfl
theorem laid_part13 : (List.range' 520 40).all (rowFine Tryz.prog) = true := by kernel_rfl
theorem laid_part14 : (List.range' 560 40).all (rowFine Tryz.prog) = true := by kernel_rfl
theorem laid_part15 : (List.range' 600 40).all (rowFine Tryz.prog) = true := by kernel_rfl
theorem laid_part16 : (List.range' 640 40).all (rowFine Tryz.prog) = true := by kernel_rfl
theorem laid_part17 : (List.range' 680 25).all (rowFine Tryz.prog) = true := by kernel_rfl
theorem laid_size : Tryz.prog.types.size = 705 := by kernel_rfl
theorem laid_globals : Tryz.prog.globals.all (fun g => decide (g.type < Tryz.prog.types.size)) = true := by kernel_rfl
theorem laid_funcs : Tryz.prog.funcs.all (fun f => f.params.all fun t => decide (t < Tryz.prog.types.size)) = true := by kernel_rfl
theorem laid_out : laidOutB Tryz.prog = true := by
  unfold laidOutB
  rw [laid_globals, laid_funcs, Bool.and_true, Bool.and_true, List.all_eq_true]
  intro x hx
  rw [List.mem_range, laid_size] at hx
  by_cases h0 : x < 40
  · exact part_of laid_part0 x (by omega) (by omega)
  by_cases h1 : x < 80
  · exact part_of laid_part1 x (by omega) (by omega)
  by_cases h2 : x < 120
  · exact part_of laid_part2 x (by omega) (by omega)
  by_cases h3 : x < 160
  · exact part_of laid_part3 x (by omega) (by omega)
  by_cases h4 : x < 200
  · exact part_of laid_part4 x (by omega) (by omega)
  by_cases h5 : x < 240
  · exact part_of laid_part5 x (by omega) (by omega)
  by_cases h6 : x < 280
  · exact part_of laid_part6 x (by omega) (by omega)
  by_cases h7 : x < 320
  · exact part_of laid_part7 x (by omega) (by omega)
  by_cases h8 : x < 360
  · exact part_of laid_part8 x (by omega) (by omega)
  by_cases h9 : x < 400
  · exact part_of laid_part9 x (by omega) (by omega)
  by_cases h10 : x < 440
  · exact part_of laid_part10 x (by omega) (by omega)
  by_cases h11 : x < 480
  · exact part_of laid_part11 x (by omega) (by omega)
  by_cases h12 : x < 520
  · exact part_of laid_part12 x (by omega) (by omega)
  by_cases h13 : x < 560
  · exact part_of laid_part13 x (by omega) (by omega)
  by_cases h14 : x < 600
  · exact part_of laid_part14 x (by omega) (by omega)
  by_cases h15 : x < 640
  · exact part_of laid_part15 x (by omega) (by omega)
  by_cases h16 : x < 680
  · exact part_of laid_part16 x (by omega) (by omega)
  exact part_of laid_part17 x (by omega) (by omega)
end Go.Proofs.YthglnebobkpioaaGreatDoor
