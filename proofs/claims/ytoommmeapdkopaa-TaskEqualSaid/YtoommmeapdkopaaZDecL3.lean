/- The interpreter's code of this seat's functions, printed out of the translation; the tie proves that it is the loaded program's. -/
import Derived.Test.YtoommmeapdkopaaZCode2
import Derived.KernelRfl
set_option maxRecDepth 20000
namespace Go.Proofs.Ytoommmeapdkopaa.E
open Go Go.Eng
@[simp] theorem pur3 : G.pur 3 = true := by kernel_rfl
@[simp] theorem pur4 : G.pur 4 = true := by kernel_rfl
@[simp] theorem pur5 : G.pur 5 = true := by kernel_rfl
@[simp] theorem pur6 : G.pur 6 = true := by kernel_rfl
@[simp] theorem pur7 : G.pur 7 = true := by kernel_rfl
@[simp] theorem pur8 : G.pur 8 = true := by kernel_rfl
@[simp] theorem pur9 : G.pur 9 = true := by kernel_rfl
@[simp] theorem pur10 : G.pur 10 = true := by kernel_rfl
@[simp] theorem pur11 : G.pur 11 = true := by kernel_rfl
@[simp] theorem pur12 : G.pur 12 = true := by kernel_rfl
@[simp] theorem pur13 : G.pur 13 = true := by kernel_rfl
@[simp] theorem pur14 : G.pur 14 = true := by kernel_rfl
@[simp] theorem pur15 : G.pur 15 = true := by kernel_rfl
@[simp] theorem pur16 : G.pur 16 = true := by kernel_rfl
@[simp] theorem pur17 : G.pur 17 = true := by kernel_rfl
@[simp] theorem pur18 : G.pur 18 = true := by kernel_rfl
@[simp] theorem pur19 : G.pur 19 = true := by kernel_rfl
@[simp] theorem pur20 : G.pur 20 = true := by kernel_rfl
@[simp] theorem pur21 : G.pur 21 = true := by kernel_rfl
@[simp] theorem pur22 : G.pur 22 = true := by kernel_rfl
@[simp] theorem pur23 : G.pur 23 = true := by kernel_rfl
@[simp] theorem pur24 : G.pur 24 = true := by kernel_rfl
@[simp] theorem pur25 : G.pur 25 = true := by kernel_rfl
@[simp] theorem pur26 : G.pur 26 = true := by kernel_rfl
@[simp] theorem pur27 : G.pur 27 = true := by kernel_rfl
@[simp] theorem pur28 : G.pur 28 = true := by kernel_rfl
@[simp] theorem pur29 : G.pur 29 = true := by kernel_rfl
@[simp] theorem pur30 : G.pur 30 = true := by kernel_rfl
@[simp] theorem pur31 : G.pur 31 = true := by kernel_rfl
@[simp] theorem pur32 : G.pur 32 = true := by kernel_rfl
@[simp] theorem pur33 : G.pur 33 = true := by kernel_rfl
@[simp] theorem pur34 : G.pur 34 = true := by kernel_rfl
@[simp] theorem pur35 : G.pur 35 = true := by kernel_rfl
@[simp] theorem pur36 : G.pur 36 = true := by kernel_rfl
@[simp] theorem pur37 : G.pur 37 = true := by kernel_rfl
@[simp] theorem pur38 : G.pur 38 = true := by kernel_rfl
@[simp] theorem pur39 : G.pur 39 = true := by kernel_rfl
@[simp] theorem pur40 : G.pur 40 = true := by kernel_rfl
@[simp] theorem pur41 : G.pur 41 = true := by kernel_rfl
@[simp] theorem pur42 : G.pur 42 = true := by kernel_rfl
@[simp] theorem pur43 : G.pur 43 = true := by kernel_rfl
@[simp] theorem pur45 : G.pur 45 = true := by kernel_rfl
@[simp] theorem pur46 : G.pur 46 = true := by kernel_rfl
@[simp] theorem pur48 : G.pur 48 = true := by kernel_rfl
@[simp] theorem pur50 : G.pur 50 = true := by kernel_rfl
@[simp] theorem pur51 : G.pur 51 = true := by kernel_rfl
@[simp] theorem pur52 : G.pur 52 = true := by kernel_rfl
@[simp] theorem pur53 : G.pur 53 = true := by kernel_rfl
@[simp] theorem pur54 : G.pur 54 = true := by kernel_rfl
@[simp] theorem pur55 : G.pur 55 = true := by kernel_rfl
@[simp] theorem pur56 : G.pur 56 = true := by kernel_rfl
@[simp] theorem pur57 : G.pur 57 = true := by kernel_rfl
@[simp] theorem pur58 : G.pur 58 = true := by kernel_rfl
@[simp] theorem pur59 : G.pur 59 = true := by kernel_rfl
@[simp] theorem pur60 : G.pur 60 = true := by kernel_rfl
@[simp] theorem pur61 : G.pur 61 = true := by kernel_rfl
@[simp] theorem pur62 : G.pur 62 = true := by kernel_rfl
@[simp] theorem pur64 : G.pur 64 = true := by kernel_rfl
@[simp] theorem pur65 : G.pur 65 = true := by kernel_rfl
@[simp] theorem pur66 : G.pur 66 = true := by kernel_rfl
@[simp] theorem pur67 : G.pur 67 = true := by kernel_rfl
@[simp] theorem pur68 : G.pur 68 = true := by kernel_rfl
@[simp] theorem pur69 : G.pur 69 = true := by kernel_rfl
@[simp] theorem pur70 : G.pur 70 = true := by kernel_rfl
@[simp] theorem pur71 : G.pur 71 = true := by kernel_rfl
@[simp] theorem pur72 : G.pur 72 = true := by kernel_rfl
@[simp] theorem pur73 : G.pur 73 = true := by kernel_rfl
@[simp] theorem pur74 : G.pur 74 = true := by kernel_rfl
@[simp] theorem pur77 : G.pur 77 = true := by kernel_rfl
@[simp] theorem pur78 : G.pur 78 = true := by kernel_rfl
@[simp] theorem pur79 : G.pur 79 = true := by kernel_rfl
@[simp] theorem pur80 : G.pur 80 = true := by kernel_rfl
@[simp] theorem pur81 : G.pur 81 = true := by kernel_rfl
@[simp] theorem pur82 : G.pur 82 = true := by kernel_rfl
@[simp] theorem pur84 : G.pur 84 = true := by kernel_rfl
@[simp] theorem pur85 : G.pur 85 = true := by kernel_rfl
@[simp] theorem pur86 : G.pur 86 = true := by kernel_rfl
@[simp] theorem pur88 : G.pur 88 = true := by kernel_rfl
@[simp] theorem pur89 : G.pur 89 = true := by kernel_rfl
@[simp] theorem pur90 : G.pur 90 = true := by kernel_rfl
@[simp] theorem pur91 : G.pur 91 = true := by kernel_rfl
@[simp] theorem pur92 : G.pur 92 = true := by kernel_rfl
@[simp] theorem pur93 : G.pur 93 = true := by kernel_rfl
@[simp] theorem pur94 : G.pur 94 = true := by kernel_rfl
@[simp] theorem pur95 : G.pur 95 = true := by kernel_rfl
@[simp] theorem pur96 : G.pur 96 = true := by kernel_rfl
@[simp] theorem pur97 : G.pur 97 = true := by kernel_rfl
@[simp] theorem pur98 : G.pur 98 = true := by kernel_rfl
@[simp] theorem pur99 : G.pur 99 = true := by kernel_rfl
@[simp] theorem pur100 : G.pur 100 = true := by kernel_rfl
@[simp] theorem pur101 : G.pur 101 = true := by kernel_rfl
@[simp] theorem pur102 : G.pur 102 = true := by kernel_rfl
@[simp] theorem pur103 : G.pur 103 = true := by kernel_rfl
/-! 3: dowel/dowellaw49.TaskEqual -/
theorem w3 {x0 x1 : V} {H : Heap} {k : V → Heap → Prop} : runW G i3 [x0, x1] H k = (
    bd (bxrV x0) fun a2_0 => 
    bd (bxrV x1) fun a3_1 => 
    (true || G.pur 10) = true ∧ Cl G 10 [] H fun a5_3 ha5_3 => 
    bd (unV .not a5_3) fun a6_4 => 
    wpg (gdV a6_4 false) ha5_3 (fun k => bd (ldV ha5_3 a2_0 2 true) fun a8_6i => k a8_6i ha5_3) fun a8_6 ha8_6 => 
    wpg (gdV a6_4 false) ha8_6 (fun k => (true || G.pur 11) = true ∧ Cl G 11 [a8_6] ha8_6 fun a9_7i ha9_7i => k a9_7i ha9_7i) fun a9_7 ha9_7 => 
    wpg (gdV a6_4 false) ha9_7 (fun k => bd (unV .not a9_7) fun a10_8i => k a10_8i ha9_7) fun a10_8 ha10_8 => 
    bd (pickV a6_4 (.bool true) a10_8) fun a11_9 => 
    wpg (gdV a11_9 false) ha10_8 (fun k => bd (ldV ha10_8 a3_1 2 true) fun a13_11i => k a13_11i ha10_8) fun a13_11 ha13_11 => 
    wpg (gdV a11_9 false) ha13_11 (fun k => (true || G.pur 11) = true ∧ Cl G 11 [a13_11] ha13_11 fun a14_12i ha14_12i => k a14_12i ha14_12i) fun a14_12 ha14_12 => 
    wpg (gdV a11_9 false) ha14_12 (fun k => bd (unV .not a14_12) fun a15_13i => k a15_13i ha14_12) fun a15_13 ha15_13 => 
    bd (pickV a11_9 (.bool true) a15_13) fun a16_14 => 
    ifB a16_14
      ((true || G.pur 10) = true ∧ Cl G 10 [] ha15_13 fun a17_15 ha17_15 => 
      k a17_15 ha17_15)
      (bd (ldV ha15_13 a2_0 2 true) fun a18_17 => 
      bd (ldV ha15_13 a3_1 2 true) fun a19_18 => 
      (false || G.pur 12) = true ∧ Cl G 12 [a18_17, a19_18] ha15_13 fun a20_19 ha20_19 => 
      bd (ldV ha20_19 a2_0 2 true) fun a21_20 => 
      bd (ldV ha20_19 a3_1 2 true) fun a22_21 => 
      (true || G.pur 13) = true ∧ Cl G 13 [a21_20, a22_21] ha20_19 fun a23_22 ha23_22 => 
      bd (eqnV .bool false a20_19 a23_22) fun a24_23 => 
      wpg (gdV a24_23 true) ha23_22 (fun k => bd (ldV ha23_22 a3_1 2 true) fun a26_25i => k a26_25i ha23_22) fun a26_25 ha26_25 => 
      wpg (gdV a24_23 true) ha26_25 (fun k => bd (ldV ha26_25 a2_0 2 true) fun a27_26i => k a27_26i ha26_25) fun a27_26 ha27_26 => 
      wpg (gdV a24_23 true) ha27_26 (fun k => (false || G.pur 12) = true ∧ Cl G 12 [a26_25, a27_26] ha27_26 fun a28_27i ha28_27i => k a28_27i ha28_27i) fun a28_27 ha28_27 => 
      wpg (gdV a24_23 true) ha28_27 (fun k => bd (ldV ha28_27 a2_0 2 true) fun a29_28i => k a29_28i ha28_27) fun a29_28 ha29_28 => 
      wpg (gdV a24_23 true) ha29_28 (fun k => bd (ldV ha29_28 a3_1 2 true) fun a30_29i => k a30_29i ha29_28) fun a30_29 ha30_29 => 
      wpg (gdV a24_23 true) ha30_29 (fun k => (true || G.pur 13) = true ∧ Cl G 13 [a29_28, a30_29] ha30_29 fun a31_30i ha31_30i => k a31_30i ha31_30i) fun a31_30 ha31_30 => 
      wpg (gdV a24_23 true) ha31_30 (fun k => bd (eqnV .bool false a28_27 a31_30) fun a32_31i => k a32_31i ha31_30) fun a32_31 ha32_31 => 
      bd (pickV a24_23 a32_31 (.bool false)) fun a33_32 => 
      k a33_32 ha32_31)) := by kernel_rfl
@[simp] theorem ret3 {x0 x1 x2 x3 x4 x5 x6 x7 x8 x9 x10 x11 x12 x13 x14 x15 x16 x17 x18 x19 x20 x21 x22 x23 x24 x25 x26 x27 x28 x29 x30 x31 x32 x33 : V} {H : Heap} {k : V → Heap → Prop} : retQ i3 k .r [x0, x1, x2, x3, x4, x5, x6, x7, x8, x9, x10, x11, x12, x13, x14, x15, x16, x17, x18, x19, x20, x21, x22, x23, x24, x25, x26, x27, x28, x29, x30, x31, x32, x33] H = k x4 H := nrfl
@[simp] theorem ret3n {x0 x1 x2 x3 x4 x5 x6 x7 x8 x9 x10 x11 x12 x13 x14 x15 x16 x17 x18 x19 x20 x21 x22 x23 x24 x25 x26 x27 x28 x29 x30 x31 x32 x33 : V} {H : Heap} {k : V → Heap → Prop} : retQ i3 k .n [x0, x1, x2, x3, x4, x5, x6, x7, x8, x9, x10, x11, x12, x13, x14, x15, x16, x17, x18, x19, x20, x21, x22, x23, x24, x25, x26, x27, x28, x29, x30, x31, x32, x33] H = k x4 H := nrfl
end Go.Proofs.Ytoommmeapdkopaa.E
