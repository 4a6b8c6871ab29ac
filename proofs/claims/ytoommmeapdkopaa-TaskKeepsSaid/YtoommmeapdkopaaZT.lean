/- The printed code is the loaded program. No conditions. -/
import Derived.Test.YtoommmeapdkopaaProg
import Derived.Test.YtoommmeapdkopaaE33
import Derived.Test.YtoommmeapdkopaaZC2
import Derived.KernelRfl
namespace Go.Proofs.Ytoommmeapdkopaa.E
open Go Go.Eng
theorem t8 : trFun Try.prog 8 i8.mode i8.pr = some i8 := by kernel_rfl
theorem t10 : trFun Try.prog 10 i10.mode i10.pr = some i10 := by kernel_rfl
theorem t11 : trFun Try.prog 11 i11.mode i11.pr = some i11 := by kernel_rfl
theorem t12 : trFun Try.prog 12 i12.mode i12.pr = some i12 := by kernel_rfl
theorem t14 : trFun Try.prog 14 i14.mode i14.pr = some i14 := by kernel_rfl
theorem t15 : trFun Try.prog 15 i15.mode i15.pr = some i15 := by kernel_rfl
theorem t16 : trFun Try.prog 16 i16.mode i16.pr = some i16 := by kernel_rfl
theorem t17 : trFun Try.prog 17 i17.mode i17.pr = some i17 := by kernel_rfl
theorem t19 : trFun Try.prog 19 i19.mode i19.pr = some i19 := by kernel_rfl
theorem t22 : trFun Try.prog 22 i22.mode i22.pr = some i22 := by kernel_rfl
theorem t24 : trFun Try.prog 24 i24.mode i24.pr = some i24 := by kernel_rfl
theorem t25 : trFun Try.prog 25 i25.mode i25.pr = some i25 := by kernel_rfl
theorem t26 : trFun Try.prog 26 i26.mode i26.pr = some i26 := by kernel_rfl
theorem t29 : trFun Try.prog 29 i29.mode i29.pr = some i29 := by kernel_rfl
theorem t30 : trFun Try.prog 30 i30.mode i30.pr = some i30 := by kernel_rfl
theorem t31 : trFun Try.prog 31 i31.mode i31.pr = some i31 := by kernel_rfl
theorem t32 : trFun Try.prog 32 i32.mode i32.pr = some i32 := by kernel_rfl
theorem t33 : trFun Try.prog 33 i33.mode i33.pr = some i33 := by kernel_rfl
theorem t34 : trFun Try.prog 34 i34.mode i34.pr = some i34 := by kernel_rfl
theorem t35 : trFun Try.prog 35 i35.mode i35.pr = some i35 := by kernel_rfl
theorem t36 : trFun Try.prog 36 i36.mode i36.pr = some i36 := by kernel_rfl
theorem t38 : trFun Try.prog 38 i38.mode i38.pr = some i38 := by kernel_rfl
theorem t39 : trFun Try.prog 39 i39.mode i39.pr = some i39 := by kernel_rfl
theorem t40 : trFun Try.prog 40 i40.mode i40.pr = some i40 := by kernel_rfl
theorem t41 : trFun Try.prog 41 i41.mode i41.pr = some i41 := by kernel_rfl
theorem t42 : trFun Try.prog 42 i42.mode i42.pr = some i42 := by kernel_rfl
theorem t43 : trFun Try.prog 43 i43.mode i43.pr = some i43 := by kernel_rfl
theorem t44 : trFun Try.prog 44 i44.mode i44.pr = some i44 := by kernel_rfl
theorem t45 : trFun Try.prog 45 i45.mode i45.pr = some i45 := by kernel_rfl
theorem t46 : trFun Try.prog 46 i46.mode i46.pr = some i46 := by kernel_rfl
theorem t47 : trFun Try.prog 47 i47.mode i47.pr = some i47 := by kernel_rfl
theorem t48 : trFun Try.prog 48 i48.mode i48.pr = some i48 := by kernel_rfl
theorem t49 : trFun Try.prog 49 i49.mode i49.pr = some i49 := by kernel_rfl
theorem t50 : trFun Try.prog 50 i50.mode i50.pr = some i50 := by kernel_rfl
theorem t51 : trFun Try.prog 51 i51.mode i51.pr = some i51 := by kernel_rfl
theorem t52 : trFun Try.prog 52 i52.mode i52.pr = some i52 := by kernel_rfl
theorem t53 : trFun Try.prog 53 i53.mode i53.pr = some i53 := by kernel_rfl
theorem t55 : trFun Try.prog 55 i55.mode i55.pr = some i55 := by kernel_rfl
theorem t56 : trFun Try.prog 56 i56.mode i56.pr = some i56 := by kernel_rfl
theorem t57 : trFun Try.prog 57 i57.mode i57.pr = some i57 := by kernel_rfl
theorem t58 : trFun Try.prog 58 i58.mode i58.pr = some i58 := by kernel_rfl
theorem t59 : trFun Try.prog 59 i59.mode i59.pr = some i59 := by kernel_rfl
theorem t60 : trFun Try.prog 60 i60.mode i60.pr = some i60 := by kernel_rfl
theorem t61 : trFun Try.prog 61 i61.mode i61.pr = some i61 := by kernel_rfl
theorem t62 : trFun Try.prog 62 i62.mode i62.pr = some i62 := by kernel_rfl
theorem t63 : trFun Try.prog 63 i63.mode i63.pr = some i63 := by kernel_rfl
theorem t64 : trFun Try.prog 64 i64.mode i64.pr = some i64 := by kernel_rfl
theorem t65 : trFun Try.prog 65 i65.mode i65.pr = some i65 := by kernel_rfl
theorem t66 : trFun Try.prog 66 i66.mode i66.pr = some i66 := by kernel_rfl
theorem t67 : trFun Try.prog 67 i67.mode i67.pr = some i67 := by kernel_rfl
theorem t68 : trFun Try.prog 68 i68.mode i68.pr = some i68 := by kernel_rfl
theorem t69 : trFun Try.prog 69 i69.mode i69.pr = some i69 := by kernel_rfl
theorem t70 : trFun Try.prog 70 i70.mode i70.pr = some i70 := by kernel_rfl
theorem t71 : trFun Try.prog 71 i71.mode i71.pr = some i71 := by kernel_rfl
theorem t72 : trFun Try.prog 72 i72.mode i72.pr = some i72 := by kernel_rfl
theorem t73 : trFun Try.prog 73 i73.mode i73.pr = some i73 := by kernel_rfl
theorem t74 : trFun Try.prog 74 i74.mode i74.pr = some i74 := by kernel_rfl
theorem t75 : trFun Try.prog 75 i75.mode i75.pr = some i75 := by kernel_rfl
theorem t76 : trFun Try.prog 76 i76.mode i76.pr = some i76 := by kernel_rfl
theorem t77 : trFun Try.prog 77 i77.mode i77.pr = some i77 := by kernel_rfl
theorem t78 : trFun Try.prog 78 i78.mode i78.pr = some i78 := by kernel_rfl
theorem t79 : trFun Try.prog 79 i79.mode i79.pr = some i79 := by kernel_rfl
theorem t80 : trFun Try.prog 80 i80.mode i80.pr = some i80 := by kernel_rfl
theorem t81 : trFun Try.prog 81 i81.mode i81.pr = some i81 := by kernel_rfl
theorem t82 : trFun Try.prog 82 i82.mode i82.pr = some i82 := by kernel_rfl
theorem t83 : trFun Try.prog 83 i83.mode i83.pr = some i83 := by kernel_rfl
theorem t84 : trFun Try.prog 84 i84.mode i84.pr = some i84 := by kernel_rfl
theorem t85 : trFun Try.prog 85 i85.mode i85.pr = some i85 := by kernel_rfl
theorem t86 : trFun Try.prog 86 i86.mode i86.pr = some i86 := by kernel_rfl
theorem t87 : trFun Try.prog 87 i87.mode i87.pr = some i87 := by kernel_rfl
theorem t88 : trFun Try.prog 88 i88.mode i88.pr = some i88 := by kernel_rfl
theorem t89 : trFun Try.prog 89 i89.mode i89.pr = some i89 := by kernel_rfl
theorem t90 : trFun Try.prog 90 i90.mode i90.pr = some i90 := by kernel_rfl
theorem t91 : trFun Try.prog 91 i91.mode i91.pr = some i91 := by kernel_rfl
theorem t92 : trFun Try.prog 92 i92.mode i92.pr = some i92 := by kernel_rfl
theorem t93 : trFun Try.prog 93 i93.mode i93.pr = some i93 := by kernel_rfl
theorem t94 : trFun Try.prog 94 i94.mode i94.pr = some i94 := by kernel_rfl
theorem t95 : trFun Try.prog 95 i95.mode i95.pr = some i95 := by kernel_rfl
theorem t96 : trFun Try.prog 96 i96.mode i96.pr = some i96 := by kernel_rfl
theorem t97 : trFun Try.prog 97 i97.mode i97.pr = some i97 := by kernel_rfl
theorem t98 : trFun Try.prog 98 i98.mode i98.pr = some i98 := by kernel_rfl
theorem t99 : trFun Try.prog 99 i99.mode i99.pr = some i99 := by kernel_rfl
theorem t100 : trFun Try.prog 100 i100.mode i100.pr = some i100 := by kernel_rfl
theorem t101 : trFun Try.prog 101 i101.mode i101.pr = some i101 := by kernel_rfl
theorem t102 : trFun Try.prog 102 i102.mode i102.pr = some i102 := by kernel_rfl
theorem t103 : trFun Try.prog 103 i103.mode i103.pr = some i103 := by kernel_rfl
theorem follows : Try.prog.follows .mixedOrders = true := by kernel_rfl
theorem ties : Ties Try.prog G := ⟨follows, by
  intro p hp
  simp only [G, List.mem_cons, List.not_mem_nil, or_false] at hp
  rcases hp with rfl | rfl | rfl | rfl | rfl | rfl | rfl | rfl | rfl | rfl | rfl | rfl | rfl | rfl | rfl | rfl | rfl | rfl | rfl | rfl | rfl | rfl | rfl | rfl | rfl | rfl | rfl | rfl | rfl | rfl | rfl | rfl | rfl | rfl | rfl | rfl | rfl | rfl | rfl | rfl | rfl | rfl | rfl | rfl | rfl | rfl | rfl | rfl | rfl | rfl | rfl | rfl | rfl | rfl | rfl | rfl | rfl | rfl | rfl | rfl | rfl | rfl | rfl | rfl | rfl | rfl | rfl | rfl | rfl | rfl | rfl | rfl | rfl | rfl | rfl | rfl | rfl | rfl | rfl | rfl | rfl | rfl | rfl | rfl | rfl | rfl
  · exact t8
  · exact t10
  · exact t11
  · exact t12
  · exact t14
  · exact t15
  · exact t16
  · exact t17
  · exact t19
  · exact t22
  · exact t24
  · exact t25
  · exact t26
  · exact t29
  · exact t30
  · exact t31
  · exact t32
  · exact t33
  · exact t34
  · exact t35
  · exact t36
  · exact t38
  · exact t39
  · exact t40
  · exact t41
  · exact t42
  · exact t43
  · exact t44
  · exact t45
  · exact t46
  · exact t47
  · exact t48
  · exact t49
  · exact t50
  · exact t51
  · exact t52
  · exact t53
  · exact t55
  · exact t56
  · exact t57
  · exact t58
  · exact t59
  · exact t60
  · exact t61
  · exact t62
  · exact t63
  · exact t64
  · exact t65
  · exact t66
  · exact t67
  · exact t68
  · exact t69
  · exact t70
  · exact t71
  · exact t72
  · exact t73
  · exact t74
  · exact t75
  · exact t76
  · exact t77
  · exact t78
  · exact t79
  · exact t80
  · exact t81
  · exact t82
  · exact t83
  · exact t84
  · exact t85
  · exact t86
  · exact t87
  · exact t88
  · exact t89
  · exact t90
  · exact t91
  · exact t92
  · exact t93
  · exact t94
  · exact t95
  · exact t96
  · exact t97
  · exact t98
  · exact t99
  · exact t100
  · exact t101
  · exact t102
  · exact t103⟩
end Go.Proofs.Ytoommmeapdkopaa.E
