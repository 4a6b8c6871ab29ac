/- The interpreter's code of this seat's functions, printed out of the translation; the tie proves that it is the loaded program's. -/
import Derived.Test.YtoommmeapdkopaaZCode2
import Derived.KernelRfl
set_option maxRecDepth 20000
namespace Go.Proofs.Ytoommmeapdkopaa.E
open Go Go.Eng
@[simp] theorem pur3 : G.pur 3 = true := by kernel_rfl
@[simp] theorem pur4 : G.pur 4 = true := by kernel_rfl
@[simp] theorem pur5 : G.pur 5 = true := by kernel_rfl
@[simp] theorem pur6 : G.pur 6 = true := by kernel_rfl
@[simp] theorem pur7 : G.pur 7 = true := by kernel_rfl
@[simp] theorem pur8 : G.pur 8 = true := by kernel_rfl
@[simp] theorem pur9 : G.pur 9 = true := by kernel_rfl
@[simp] theorem pur10 : G.pur 10 = true := by kernel_rfl
@[simp] theorem pur11 : G.pur 11 = true := by kernel_rfl
@[simp] theorem pur12 : G.pur 12 = true := by kernel_rfl
@[simp] theorem pur13 : G.pur 13 = true := by kernel_rfl
@[simp] theorem pur14 : G.pur 14 = true := by kernel_rfl
@[simp] theorem pur15 : G.pur 15 = true := by kernel_rfl
@[simp] theorem pur16 : G.pur 16 = true := by kernel_rfl
@[simp] theorem pur17 : G.pur 17 = true := by kernel_rfl
@[simp] theorem pur18 : G.pur 18 = true := by kernel_rfl
@[simp] theorem pur19 : G.pur 19 = true := by kernel_rfl
@[simp] theorem pur20 : G.pur 20 = true := by kernel_rfl
@[simp] theorem pur21 : G.pur 21 = true := by kernel_rfl
@[simp] theorem pur22 : G.pur 22 = true := by kernel_rfl
@[simp] theorem pur23 : G.pur 23 = true := by kernel_rfl
@[simp] theorem pur24 : G.pur 24 = true := by kernel_rfl
@[simp] theorem pur25 : G.pur 25 = true := by kernel_rfl
@[simp] theorem pur26 : G.pur 26 = true := by kernel_rfl
@[simp] theorem pur27 : G.pur 27 = true := by kernel_rfl
@[simp] theorem pur28 : G.pur 28 = true := by kernel_rfl
@[simp] theorem pur29 : G.pur 29 = true := by kernel_rfl
@[simp] theorem pur30 : G.pur 30 = true := by kernel_rfl
@[simp] theorem pur31 : G.pur 31 = true := by kernel_rfl
@[simp] theorem pur32 : G.pur 32 = true := by kernel_rfl
@[simp] theorem pur33 : G.pur 33 = true := by kernel_rfl
@[simp] theorem pur34 : G.pur 34 = true := by kernel_rfl
@[simp] theorem pur35 : G.pur 35 = true := by kernel_rfl
@[simp] theorem pur36 : G.pur 36 = true := by kernel_rfl
@[simp] theorem pur37 : G.pur 37 = true := by kernel_rfl
@[simp] theorem pur38 : G.pur 38 = true := by kernel_rfl
@[simp] theorem pur39 : G.pur 39 = true := by kernel_rfl
@[simp] theorem pur40 : G.pur 40 = true := by kernel_rfl
@[simp] theorem pur41 : G.pur 41 = true := by kernel_rfl
@[simp] theorem pur42 : G.pur 42 = true := by kernel_rfl
@[simp] theorem pur43 : G.pur 43 = true := by kernel_rfl
@[simp] theorem pur45 : G.pur 45 = true := by kernel_rfl
@[simp] theorem pur46 : G.pur 46 = true := by kernel_rfl
@[simp] theorem pur48 : G.pur 48 = true := by kernel_rfl
@[simp] theorem pur50 : G.pur 50 = true := by kernel_rfl
@[simp] theorem pur51 : G.pur 51 = true := by kernel_rfl
@[simp] theorem pur52 : G.pur 52 = true := by kernel_rfl
@[simp] theorem pur53 : G.pur 53 = true := by kernel_rfl
@[simp] theorem pur54 : G.pur 54 = true := by kernel_rfl
@[simp] theorem pur55 : G.pur 55 = true := by kernel_rfl
@[simp] theorem pur56 : G.pur 56 = true := by kernel_rfl
@[simp] theorem pur57 : G.pur 57 = true := by kernel_rfl
@[simp] theorem pur58 : G.pur 58 = true := by kernel_rfl
@[simp] theorem pur59 : G.pur 59 = true := by kernel_rfl
@[simp] theorem pur60 : G.pur 60 = true := by kernel_rfl
@[simp] theorem pur61 : G.pur 61 = true := by kernel_rfl
@[simp] theorem pur62 : G.pur 62 = true := by kernel_rfl
@[simp] theorem pur64 : G.pur 64 = true := by kernel_rfl
@[simp] theorem pur65 : G.pur 65 = true := by kernel_rfl
@[simp] theorem pur66 : G.pur 66 = true := by kernel_rfl
@[simp] theorem pur67 : G.pur 67 = true := by kernel_rfl
@[simp] theorem pur68 : G.pur 68 = true := by kernel_rfl
@[simp] theorem pur69 : G.pur 69 = true := by kernel_rfl
@[simp] theorem pur70 : G.pur 70 = true := by kernel_rfl
@[simp] theorem pur71 : G.pur 71 = true := by kernel_rfl
@[simp] theorem pur72 : G.pur 72 = true := by kernel_rfl
@[simp] theorem pur73 : G.pur 73 = true := by kernel_rfl
@[simp] theorem pur74 : G.pur 74 = true := by kernel_rfl
@[simp] theorem pur77 : G.pur 77 = true := by kernel_rfl
@[simp] theorem pur78 : G.pur 78 = true := by kernel_rfl
@[simp] theorem pur79 : G.pur 79 = true := by kernel_rfl
@[simp] theorem pur80 : G.pur 80 = true := by kernel_rfl
@[simp] theorem pur81 : G.pur 81 = true := by kernel_rfl
@[simp] theorem pur82 : G.pur 82 = true := by kernel_rfl
@[simp] theorem pur84 : G.pur 84 = true := by kernel_rfl
@[simp] theorem pur85 : G.pur 85 = true := by kernel_rfl
@[simp] theorem pur86 : G.pur 86 = true := by kernel_rfl
@[simp] theorem pur88 : G.pur 88 = true := by kernel_rfl
@[simp] theorem pur89 : G.pur 89 = true := by kernel_rfl
@[simp] theorem pur90 : G.pur 90 = true := by kernel_rfl
@[simp] theorem pur91 : G.pur 91 = true := by kernel_rfl
@[simp] theorem pur92 : G.pur 92 = true := by kernel_rfl
@[simp] theorem pur93 : G.pur 93 = true := by kernel_rfl
@[simp] theorem pur94 : G.pur 94 = true := by kernel_rfl
@[simp] theorem pur95 : G.pur 95 = true := by kernel_rfl
@[simp] theorem pur96 : G.pur 96 = true := by kernel_rfl
@[simp] theorem pur97 : G.pur 97 = true := by kernel_rfl
@[simp] theorem pur98 : G.pur 98 = true := by kernel_rfl
@[simp] theorem pur99 : G.pur 99 = true := by kernel_rfl
@[simp] theorem pur100 : G.pur 100 = true := by kernel_rfl
@[simp] theorem pur101 : G.pur 101 = true := by kernel_rfl
@[simp] theorem pur102 : G.pur 102 = true := by kernel_rfl
@[simp] theorem pur103 : G.pur 103 = true := by kernel_rfl
/-! 11: dowel/dowellaw49.Few -/
theorem w11 {x0 : V} {H : Heap} {k : V → Heap → Prop} : runW G i11 [x0] H k = (
    bd (bxrV x0) fun a1_0 => 
    bd (fadrV 0 a1_0) fun a6_2 => 
    bd (ldV H a6_2 1 false) fun a7_3 => 
    bd (lensV a7_3) fun a8_4 => 
    bd (binV .gtr a8_4 (.int .i64 8)) fun a9_5 => 
    wpg (gdV a9_5 false) H (fun k => bd (fadrV 1 a1_0) fun a11_7i => k a11_7i H) fun a11_7 ha11_7 => 
    wpg (gdV a9_5 false) ha11_7 (fun k => bd (ldV ha11_7 a11_7 1 false) fun a12_8i => k a12_8i ha11_7) fun a12_8 ha12_8 => 
    wpg (gdV a9_5 false) ha12_8 (fun k => bd (lensV a12_8) fun a13_9i => k a13_9i ha12_8) fun a13_9 ha13_9 => 
    wpg (gdV a9_5 false) ha13_9 (fun k => bd (binV .gtr a13_9 (.int .i64 4)) fun a14_10i => k a14_10i ha13_9) fun a14_10 ha14_10 => 
    bd (pickV a9_5 (.bool true) a14_10) fun a15_11 => 
    ifB a15_11
      (k (.bool false) ha14_10)
      (Lp G b11_0 (x0 :: a1_0 :: (.bool false) :: (.int .i64 0) :: undefV :: undefV :: a6_2 :: a7_3 :: a8_4 :: a9_5 :: a9_5 :: a11_7 :: a12_8 :: a13_9 :: a14_10 :: a15_11 :: undefV :: undefV :: undefV :: undefV :: undefV :: undefV :: undefV :: undefV :: undefV :: undefV :: undefV :: undefV :: undefV :: undefV :: undefV :: undefV :: undefV :: undefV :: undefV :: undefV :: undefV :: undefV :: undefV :: undefV :: undefV :: undefV :: undefV :: undefV :: undefV :: undefV :: undefV :: undefV :: undefV :: undefV :: undefV :: undefV :: undefV :: undefV :: undefV :: undefV :: undefV :: undefV :: undefV :: undefV :: undefV :: undefV :: undefV :: undefV :: undefV :: undefV :: undefV :: undefV :: undefV :: undefV :: undefV :: undefV :: undefV :: undefV :: undefV :: undefV :: undefV :: undefV :: undefV :: undefV :: undefV :: undefV :: undefV :: undefV :: undefV :: undefV :: undefV :: undefV :: undefV :: undefV :: undefV :: undefV :: undefV :: undefV :: undefV :: undefV :: undefV :: undefV :: []) ha14_10 (blockQ 0 (seqQ G r11_1 (retQ i11 k))))) := by kernel_rfl
@[simp] theorem ret11 {x0 x1 x2 x3 x4 x5 x6 x7 x8 x9 x10 x11 x12 x13 x14 x15 x16 x17 x18 x19 x20 x21 x22 x23 x24 x25 x26 x27 x28 x29 x30 x31 x32 x33 x34 x35 x36 x37 x38 x39 x40 x41 x42 x43 x44 x45 x46 x47 x48 x49 x50 x51 x52 x53 x54 x55 x56 x57 x58 x59 x60 x61 x62 x63 x64 x65 x66 x67 x68 x69 x70 x71 x72 x73 x74 x75 x76 x77 x78 x79 x80 x81 x82 x83 x84 x85 x86 x87 x88 x89 x90 x91 x92 x93 x94 x95 x96 x97 : V} {H : Heap} {k : V → Heap → Prop} : retQ i11 k .r (x0 :: x1 :: x2 :: x3 :: x4 :: x5 :: x6 :: x7 :: x8 :: x9 :: x10 :: x11 :: x12 :: x13 :: x14 :: x15 :: x16 :: x17 :: x18 :: x19 :: x20 :: x21 :: x22 :: x23 :: x24 :: x25 :: x26 :: x27 :: x28 :: x29 :: x30 :: x31 :: x32 :: x33 :: x34 :: x35 :: x36 :: x37 :: x38 :: x39 :: x40 :: x41 :: x42 :: x43 :: x44 :: x45 :: x46 :: x47 :: x48 :: x49 :: x50 :: x51 :: x52 :: x53 :: x54 :: x55 :: x56 :: x57 :: x58 :: x59 :: x60 :: x61 :: x62 :: x63 :: x64 :: x65 :: x66 :: x67 :: x68 :: x69 :: x70 :: x71 :: x72 :: x73 :: x74 :: x75 :: x76 :: x77 :: x78 :: x79 :: x80 :: x81 :: x82 :: x83 :: x84 :: x85 :: x86 :: x87 :: x88 :: x89 :: x90 :: x91 :: x92 :: x93 :: x94 :: x95 :: x96 :: x97 :: []) H = k x2 H := nrfl
@[simp] theorem ret11n {x0 x1 x2 x3 x4 x5 x6 x7 x8 x9 x10 x11 x12 x13 x14 x15 x16 x17 x18 x19 x20 x21 x22 x23 x24 x25 x26 x27 x28 x29 x30 x31 x32 x33 x34 x35 x36 x37 x38 x39 x40 x41 x42 x43 x44 x45 x46 x47 x48 x49 x50 x51 x52 x53 x54 x55 x56 x57 x58 x59 x60 x61 x62 x63 x64 x65 x66 x67 x68 x69 x70 x71 x72 x73 x74 x75 x76 x77 x78 x79 x80 x81 x82 x83 x84 x85 x86 x87 x88 x89 x90 x91 x92 x93 x94 x95 x96 x97 : V} {H : Heap} {k : V → Heap → Prop} : retQ i11 k .n (x0 :: x1 :: x2 :: x3 :: x4 :: x5 :: x6 :: x7 :: x8 :: x9 :: x10 :: x11 :: x12 :: x13 :: x14 :: x15 :: x16 :: x17 :: x18 :: x19 :: x20 :: x21 :: x22 :: x23 :: x24 :: x25 :: x26 :: x27 :: x28 :: x29 :: x30 :: x31 :: x32 :: x33 :: x34 :: x35 :: x36 :: x37 :: x38 :: x39 :: x40 :: x41 :: x42 :: x43 :: x44 :: x45 :: x46 :: x47 :: x48 :: x49 :: x50 :: x51 :: x52 :: x53 :: x54 :: x55 :: x56 :: x57 :: x58 :: x59 :: x60 :: x61 :: x62 :: x63 :: x64 :: x65 :: x66 :: x67 :: x68 :: x69 :: x70 :: x71 :: x72 :: x73 :: x74 :: x75 :: x76 :: x77 :: x78 :: x79 :: x80 :: x81 :: x82 :: x83 :: x84 :: x85 :: x86 :: x87 :: x88 :: x89 :: x90 :: x91 :: x92 :: x93 :: x94 :: x95 :: x96 :: x97 :: []) H = k x2 H := nrfl
theorem wb11_0 {x0 x1 x2 x3 x4 x5 x6 x7 x8 x9 x10 x11 x12 x13 x14 x15 x16 x17 x18 x19 x20 x21 x22 x23 x24 x25 x26 x27 x28 x29 x30 x31 x32 x33 x34 x35 x36 x37 x38 x39 x40 x41 x42 x43 x44 x45 x46 x47 x48 x49 x50 x51 x52 x53 x54 x55 x56 x57 x58 x59 x60 x61 x62 x63 x64 x65 x66 x67 x68 x69 x70 x71 x72 x73 x74 x75 x76 x77 x78 x79 x80 x81 x82 x83 x84 x85 x86 x87 x88 x89 x90 x91 x92 x93 x94 x95 x96 x97 : V} {H : Heap} {Q : Cont} : wp G b11_0 (x0 :: x1 :: x2 :: x3 :: x4 :: x5 :: x6 :: x7 :: x8 :: x9 :: x10 :: x11 :: x12 :: x13 :: x14 :: x15 :: x16 :: x17 :: x18 :: x19 :: x20 :: x21 :: x22 :: x23 :: x24 :: x25 :: x26 :: x27 :: x28 :: x29 :: x30 :: x31 :: x32 :: x33 :: x34 :: x35 :: x36 :: x37 :: x38 :: x39 :: x40 :: x41 :: x42 :: x43 :: x44 :: x45 :: x46 :: x47 :: x48 :: x49 :: x50 :: x51 :: x52 :: x53 :: x54 :: x55 :: x56 :: x57 :: x58 :: x59 :: x60 :: x61 :: x62 :: x63 :: x64 :: x65 :: x66 :: x67 :: x68 :: x69 :: x70 :: x71 :: x72 :: x73 :: x74 :: x75 :: x76 :: x77 :: x78 :: x79 :: x80 :: x81 :: x82 :: x83 :: x84 :: x85 :: x86 :: x87 :: x88 :: x89 :: x90 :: x91 :: x92 :: x93 :: x94 :: x95 :: x96 :: x97 :: []) H Q = (
    bd (fadrV 0 x1) fun a17_1 => 
    bd (ldV H a17_1 1 false) fun a18_2 => 
    bd (lensV a18_2) fun a19_3 => 
    bd (binV .lss x3 a19_3) fun a20_4 => 
    ifB a20_4
      (bd (fadrV 0 x1) fun a23_5 => 
      bd (ldV H a23_5 1 false) fun a24_6 => 
      bd (iadrV 4 a24_6 x3) fun a26_8 => 
      bd (fadrV 3 a26_8) fun a27_9 => 
      bd (ldV H a27_9 1 false) fun a28_10 => 
      bd (lensV a28_10) fun a29_11 => 
      bd (binV .gtr a29_11 (.int .i64 10)) fun a30_12 => 
      wpg (gdV a30_12 false) H (fun k => bd (fadrV 0 x1) fun a32_14i => k a32_14i H) fun a32_14 ha32_14 => 
      wpg (gdV a30_12 false) ha32_14 (fun k => bd (ldV ha32_14 a32_14 1 false) fun a33_15i => k a33_15i ha32_14) fun a33_15 ha33_15 => 
      wpg (gdV a30_12 false) ha33_15 (fun k => k x3 ha33_15) fun a34_16 ha34_16 => 
      wpg (gdV a30_12 false) ha34_16 (fun k => bd (iadrV 4 a33_15 a34_16) fun a35_17i => k a35_17i ha34_16) fun a35_17 ha35_17 => 
      wpg (gdV a30_12 false) ha35_17 (fun k => bd (fadrV 0 a35_17) fun a36_18i => k a36_18i ha35_17) fun a36_18 ha36_18 => 
      wpg (gdV a30_12 false) ha36_18 (fun k => bd (ldV ha36_18 a36_18 1 false) fun a37_19i => k a37_19i ha36_18) fun a37_19 ha37_19 => 
      wpg (gdV a30_12 false) ha37_19 (fun k => bd (lentV a37_19) fun a38_20i => k a38_20i ha37_19) fun a38_20 ha38_20 => 
      wpg (gdV a30_12 false) ha38_20 (fun k => bd (binV .gtr a38_20 (.int .i64 50)) fun a39_21i => k a39_21i ha38_20) fun a39_21 ha39_21 => 
      bd (pickV a30_12 (.bool true) a39_21) fun a40_22 => 
      wpg (gdV a40_22 false) ha39_21 (fun k => bd (fadrV 0 x1) fun a42_24i => k a42_24i ha39_21) fun a42_24 ha42_24 => 
      wpg (gdV a40_22 false) ha42_24 (fun k => bd (ldV ha42_24 a42_24 1 false) fun a43_25i => k a43_25i ha42_24) fun a43_25 ha43_25 => 
      wpg (gdV a40_22 false) ha43_25 (fun k => k x3 ha43_25) fun a44_26 ha44_26 => 
      wpg (gdV a40_22 false) ha44_26 (fun k => bd (iadrV 4 a43_25 a44_26) fun a45_27i => k a45_27i ha44_26) fun a45_27 ha45_27 => 
      wpg (gdV a40_22 false) ha45_27 (fun k => bd (fadrV 2 a45_27) fun a46_28i => k a46_28i ha45_27) fun a46_28 ha46_28 => 
      wpg (gdV a40_22 false) ha46_28 (fun k => bd (ldV ha46_28 a46_28 1 false) fun a47_29i => k a47_29i ha46_28) fun a47_29 ha47_29 => 
      wpg (gdV a40_22 false) ha47_29 (fun k => bd (lentV a47_29) fun a48_30i => k a48_30i ha47_29) fun a48_30 ha48_30 => 
      wpg (gdV a40_22 false) ha48_30 (fun k => bd (binV .gtr a48_30 (.int .i64 50)) fun a49_31i => k a49_31i ha48_30) fun a49_31 ha49_31 => 
      bd (pickV a40_22 (.bool true) a49_31) fun a50_32 => 
      ifB a50_32
        (Q .r (x0 :: x1 :: (.bool false) :: x3 :: x4 :: x5 :: x6 :: x7 :: x8 :: x9 :: x10 :: x11 :: x12 :: x13 :: x14 :: x15 :: x3 :: a17_1 :: a18_2 :: a19_3 :: a20_4 :: x21 :: x22 :: a23_5 :: a24_6 :: x3 :: a26_8 :: a27_9 :: a28_10 :: a29_11 :: a30_12 :: a30_12 :: a32_14 :: a33_15 :: a34_16 :: a35_17 :: a36_18 :: a37_19 :: a38_20 :: a39_21 :: a40_22 :: a40_22 :: a42_24 :: a43_25 :: a44_26 :: a45_27 :: a46_28 :: a47_29 :: a48_30 :: a49_31 :: a50_32 :: x51 :: x52 :: x53 :: x54 :: x55 :: x56 :: x57 :: x58 :: x59 :: x60 :: x61 :: x62 :: x63 :: x64 :: x65 :: x66 :: x67 :: x68 :: x69 :: x70 :: x71 :: x72 :: x73 :: x74 :: x75 :: x76 :: x77 :: x78 :: x79 :: x80 :: x81 :: x82 :: x83 :: x84 :: x85 :: x86 :: x87 :: x88 :: x89 :: x90 :: x91 :: x92 :: x93 :: x94 :: x95 :: x96 :: x97 :: []) ha49_31)
        (bd (binV .add x3 (.int .i64 1)) fun a22_35 => 
        Q .n (x0 :: x1 :: x2 :: a22_35 :: x4 :: x5 :: x6 :: x7 :: x8 :: x9 :: x10 :: x11 :: x12 :: x13 :: x14 :: x15 :: x3 :: a17_1 :: a18_2 :: a19_3 :: a20_4 :: x3 :: a22_35 :: a23_5 :: a24_6 :: x3 :: a26_8 :: a27_9 :: a28_10 :: a29_11 :: a30_12 :: a30_12 :: a32_14 :: a33_15 :: a34_16 :: a35_17 :: a36_18 :: a37_19 :: a38_20 :: a39_21 :: a40_22 :: a40_22 :: a42_24 :: a43_25 :: a44_26 :: a45_27 :: a46_28 :: a47_29 :: a48_30 :: a49_31 :: a50_32 :: x51 :: x52 :: x53 :: x54 :: x55 :: x56 :: x57 :: x58 :: x59 :: x60 :: x61 :: x62 :: x63 :: x64 :: x65 :: x66 :: x67 :: x68 :: x69 :: x70 :: x71 :: x72 :: x73 :: x74 :: x75 :: x76 :: x77 :: x78 :: x79 :: x80 :: x81 :: x82 :: x83 :: x84 :: x85 :: x86 :: x87 :: x88 :: x89 :: x90 :: x91 :: x92 :: x93 :: x94 :: x95 :: x96 :: x97 :: []) ha49_31))
      (Q (.e 0) (x0 :: x1 :: x2 :: x3 :: x4 :: x5 :: x6 :: x7 :: x8 :: x9 :: x10 :: x11 :: x12 :: x13 :: x14 :: x15 :: x3 :: a17_1 :: a18_2 :: a19_3 :: a20_4 :: x21 :: x22 :: x23 :: x24 :: x25 :: x26 :: x27 :: x28 :: x29 :: x30 :: x31 :: x32 :: x33 :: x34 :: x35 :: x36 :: x37 :: x38 :: x39 :: x40 :: x41 :: x42 :: x43 :: x44 :: x45 :: x46 :: x47 :: x48 :: x49 :: x50 :: x51 :: x52 :: x53 :: x54 :: x55 :: x56 :: x57 :: x58 :: x59 :: x60 :: x61 :: x62 :: x63 :: x64 :: x65 :: x66 :: x67 :: x68 :: x69 :: x70 :: x71 :: x72 :: x73 :: x74 :: x75 :: x76 :: x77 :: x78 :: x79 :: x80 :: x81 :: x82 :: x83 :: x84 :: x85 :: x86 :: x87 :: x88 :: x89 :: x90 :: x91 :: x92 :: x93 :: x94 :: x95 :: x96 :: x97 :: []) H)) := by kernel_rfl
def Sb11_0 (I : Nat → V → V → Heap → Prop) : Nat → List V → Heap → Prop := fun i ts H => ts.length = 98 ∧ I i (ts.getD 1 undefV) (ts.getD 3 undefV) H
@[simp] theorem Sb11_0_eq {I : Nat → V → V → Heap → Prop} {i : Nat} {x0 x1 x2 x3 x4 x5 x6 x7 x8 x9 x10 x11 x12 x13 x14 x15 x16 x17 x18 x19 x20 x21 x22 x23 x24 x25 x26 x27 x28 x29 x30 x31 x32 x33 x34 x35 x36 x37 x38 x39 x40 x41 x42 x43 x44 x45 x46 x47 x48 x49 x50 x51 x52 x53 x54 x55 x56 x57 x58 x59 x60 x61 x62 x63 x64 x65 x66 x67 x68 x69 x70 x71 x72 x73 x74 x75 x76 x77 x78 x79 x80 x81 x82 x83 x84 x85 x86 x87 x88 x89 x90 x91 x92 x93 x94 x95 x96 x97 : V} {H : Heap} : Sb11_0 I i (x0 :: x1 :: x2 :: x3 :: x4 :: x5 :: x6 :: x7 :: x8 :: x9 :: x10 :: x11 :: x12 :: x13 :: x14 :: x15 :: x16 :: x17 :: x18 :: x19 :: x20 :: x21 :: x22 :: x23 :: x24 :: x25 :: x26 :: x27 :: x28 :: x29 :: x30 :: x31 :: x32 :: x33 :: x34 :: x35 :: x36 :: x37 :: x38 :: x39 :: x40 :: x41 :: x42 :: x43 :: x44 :: x45 :: x46 :: x47 :: x48 :: x49 :: x50 :: x51 :: x52 :: x53 :: x54 :: x55 :: x56 :: x57 :: x58 :: x59 :: x60 :: x61 :: x62 :: x63 :: x64 :: x65 :: x66 :: x67 :: x68 :: x69 :: x70 :: x71 :: x72 :: x73 :: x74 :: x75 :: x76 :: x77 :: x78 :: x79 :: x80 :: x81 :: x82 :: x83 :: x84 :: x85 :: x86 :: x87 :: x88 :: x89 :: x90 :: x91 :: x92 :: x93 :: x94 :: x95 :: x96 :: x97 :: []) H = I i x1 x3 H := propext ⟨fun h => h.2, fun h => ⟨rfl, h⟩⟩
theorem ub11_0 {Q : Cont} (M : Nat) (I : Nat → V → V → Heap → Prop) (step : ∀ i, i ≤ M → ∀ (x1 x3 : V) (H : Heap), I i x1 x3 H → ∀ (x0 x2 x4 x5 x6 x7 x8 x9 x10 x11 x12 x13 x14 x15 x16 x17 x18 x19 x20 x21 x22 x23 x24 x25 x26 x27 x28 x29 x30 x31 x32 x33 x34 x35 x36 x37 x38 x39 x40 x41 x42 x43 x44 x45 x46 x47 x48 x49 x50 x51 x52 x53 x54 x55 x56 x57 x58 x59 x60 x61 x62 x63 x64 x65 x66 x67 x68 x69 x70 x71 x72 x73 x74 x75 x76 x77 x78 x79 x80 x81 x82 x83 x84 x85 x86 x87 x88 x89 x90 x91 x92 x93 x94 x95 x96 x97 : V), wp G b11_0 (x0 :: x1 :: x2 :: x3 :: x4 :: x5 :: x6 :: x7 :: x8 :: x9 :: x10 :: x11 :: x12 :: x13 :: x14 :: x15 :: x16 :: x17 :: x18 :: x19 :: x20 :: x21 :: x22 :: x23 :: x24 :: x25 :: x26 :: x27 :: x28 :: x29 :: x30 :: x31 :: x32 :: x33 :: x34 :: x35 :: x36 :: x37 :: x38 :: x39 :: x40 :: x41 :: x42 :: x43 :: x44 :: x45 :: x46 :: x47 :: x48 :: x49 :: x50 :: x51 :: x52 :: x53 :: x54 :: x55 :: x56 :: x57 :: x58 :: x59 :: x60 :: x61 :: x62 :: x63 :: x64 :: x65 :: x66 :: x67 :: x68 :: x69 :: x70 :: x71 :: x72 :: x73 :: x74 :: x75 :: x76 :: x77 :: x78 :: x79 :: x80 :: x81 :: x82 :: x83 :: x84 :: x85 :: x86 :: x87 :: x88 :: x89 :: x90 :: x91 :: x92 :: x93 :: x94 :: x95 :: x96 :: x97 :: []) H (upQ M (Sb11_0 I) i Q)) (i : Nat) (hi : i ≤ M) {x0 x1 x2 x3 x4 x5 x6 x7 x8 x9 x10 x11 x12 x13 x14 x15 x16 x17 x18 x19 x20 x21 x22 x23 x24 x25 x26 x27 x28 x29 x30 x31 x32 x33 x34 x35 x36 x37 x38 x39 x40 x41 x42 x43 x44 x45 x46 x47 x48 x49 x50 x51 x52 x53 x54 x55 x56 x57 x58 x59 x60 x61 x62 x63 x64 x65 x66 x67 x68 x69 x70 x71 x72 x73 x74 x75 x76 x77 x78 x79 x80 x81 x82 x83 x84 x85 x86 x87 x88 x89 x90 x91 x92 x93 x94 x95 x96 x97 : V} {H : Heap} (h : I i x1 x3 H) : Lp G b11_0 (x0 :: x1 :: x2 :: x3 :: x4 :: x5 :: x6 :: x7 :: x8 :: x9 :: x10 :: x11 :: x12 :: x13 :: x14 :: x15 :: x16 :: x17 :: x18 :: x19 :: x20 :: x21 :: x22 :: x23 :: x24 :: x25 :: x26 :: x27 :: x28 :: x29 :: x30 :: x31 :: x32 :: x33 :: x34 :: x35 :: x36 :: x37 :: x38 :: x39 :: x40 :: x41 :: x42 :: x43 :: x44 :: x45 :: x46 :: x47 :: x48 :: x49 :: x50 :: x51 :: x52 :: x53 :: x54 :: x55 :: x56 :: x57 :: x58 :: x59 :: x60 :: x61 :: x62 :: x63 :: x64 :: x65 :: x66 :: x67 :: x68 :: x69 :: x70 :: x71 :: x72 :: x73 :: x74 :: x75 :: x76 :: x77 :: x78 :: x79 :: x80 :: x81 :: x82 :: x83 :: x84 :: x85 :: x86 :: x87 :: x88 :: x89 :: x90 :: x91 :: x92 :: x93 :: x94 :: x95 :: x96 :: x97 :: []) H Q :=
  Lp.up (S := Sb11_0 I) (fun i ts H hi hS => (congrArg (fun t => wp G b11_0 t H (upQ M (Sb11_0 I) i Q)) (tabF_eq hS.1)).mpr (step i hi (ts.getD 1 undefV) (ts.getD 3 undefV) H hS.2 (ts.getD 0 undefV) (ts.getD 2 undefV) (ts.getD 4 undefV) (ts.getD 5 undefV) (ts.getD 6 undefV) (ts.getD 7 undefV) (ts.getD 8 undefV) (ts.getD 9 undefV) (ts.getD 10 undefV) (ts.getD 11 undefV) (ts.getD 12 undefV) (ts.getD 13 undefV) (ts.getD 14 undefV) (ts.getD 15 undefV) (ts.getD 16 undefV) (ts.getD 17 undefV) (ts.getD 18 undefV) (ts.getD 19 undefV) (ts.getD 20 undefV) (ts.getD 21 undefV) (ts.getD 22 undefV) (ts.getD 23 undefV) (ts.getD 24 undefV) (ts.getD 25 undefV) (ts.getD 26 undefV) (ts.getD 27 undefV) (ts.getD 28 undefV) (ts.getD 29 undefV) (ts.getD 30 undefV) (ts.getD 31 undefV) (ts.getD 32 undefV) (ts.getD 33 undefV) (ts.getD 34 undefV) (ts.getD 35 undefV) (ts.getD 36 undefV) (ts.getD 37 undefV) (ts.getD 38 undefV) (ts.getD 39 undefV) (ts.getD 40 undefV) (ts.getD 41 undefV) (ts.getD 42 undefV) (ts.getD 43 undefV) (ts.getD 44 undefV) (ts.getD 45 undefV) (ts.getD 46 undefV) (ts.getD 47 undefV) (ts.getD 48 undefV) (ts.getD 49 undefV) (ts.getD 50 undefV) (ts.getD 51 undefV) (ts.getD 52 undefV) (ts.getD 53 undefV) (ts.getD 54 undefV) (ts.getD 55 undefV) (ts.getD 56 undefV) (ts.getD 57 undefV) (ts.getD 58 undefV) (ts.getD 59 undefV) (ts.getD 60 undefV) (ts.getD 61 undefV) (ts.getD 62 undefV) (ts.getD 63 undefV) (ts.getD 64 undefV) (ts.getD 65 undefV) (ts.getD 66 undefV) (ts.getD 67 undefV) (ts.getD 68 undefV) (ts.getD 69 undefV) (ts.getD 70 undefV) (ts.getD 71 undefV) (ts.getD 72 undefV) (ts.getD 73 undefV) (ts.getD 74 undefV) (ts.getD 75 undefV) (ts.getD 76 undefV) (ts.getD 77 undefV) (ts.getD 78 undefV) (ts.getD 79 undefV) (ts.getD 80 undefV) (ts.getD 81 undefV) (ts.getD 82 undefV) (ts.getD 83 undefV) (ts.getD 84 undefV) (ts.getD 85 undefV) (ts.getD 86 undefV) (ts.getD 87 undefV) (ts.getD 88 undefV) (ts.getD 89 undefV) (ts.getD 90 undefV) (ts.getD 91 undefV) (ts.getD 92 undefV) (ts.getD 93 undefV) (ts.getD 94 undefV) (ts.getD 95 undefV) (ts.getD 96 undefV) (ts.getD 97 undefV))) _ i _ H rfl hi ⟨rfl, h⟩
theorem wr11_1 {x0 x1 x2 x3 x4 x5 x6 x7 x8 x9 x10 x11 x12 x13 x14 x15 x16 x17 x18 x19 x20 x21 x22 x23 x24 x25 x26 x27 x28 x29 x30 x31 x32 x33 x34 x35 x36 x37 x38 x39 x40 x41 x42 x43 x44 x45 x46 x47 x48 x49 x50 x51 x52 x53 x54 x55 x56 x57 x58 x59 x60 x61 x62 x63 x64 x65 x66 x67 x68 x69 x70 x71 x72 x73 x74 x75 x76 x77 x78 x79 x80 x81 x82 x83 x84 x85 x86 x87 x88 x89 x90 x91 x92 x93 x94 x95 x96 x97 : V} {H : Heap} {Q : Cont} : wp G r11_1 (x0 :: x1 :: x2 :: x3 :: x4 :: x5 :: x6 :: x7 :: x8 :: x9 :: x10 :: x11 :: x12 :: x13 :: x14 :: x15 :: x16 :: x17 :: x18 :: x19 :: x20 :: x21 :: x22 :: x23 :: x24 :: x25 :: x26 :: x27 :: x28 :: x29 :: x30 :: x31 :: x32 :: x33 :: x34 :: x35 :: x36 :: x37 :: x38 :: x39 :: x40 :: x41 :: x42 :: x43 :: x44 :: x45 :: x46 :: x47 :: x48 :: x49 :: x50 :: x51 :: x52 :: x53 :: x54 :: x55 :: x56 :: x57 :: x58 :: x59 :: x60 :: x61 :: x62 :: x63 :: x64 :: x65 :: x66 :: x67 :: x68 :: x69 :: x70 :: x71 :: x72 :: x73 :: x74 :: x75 :: x76 :: x77 :: x78 :: x79 :: x80 :: x81 :: x82 :: x83 :: x84 :: x85 :: x86 :: x87 :: x88 :: x89 :: x90 :: x91 :: x92 :: x93 :: x94 :: x95 :: x96 :: x97 :: []) H Q = (
    Lp G b11_2 (x0 :: x1 :: x2 :: x3 :: (.int .i64 0) :: x5 :: x6 :: x7 :: x8 :: x9 :: x10 :: x11 :: x12 :: x13 :: x14 :: x15 :: x16 :: x17 :: x18 :: x19 :: x20 :: x21 :: x22 :: x23 :: x24 :: x25 :: x26 :: x27 :: x28 :: x29 :: x30 :: x31 :: x32 :: x33 :: x34 :: x35 :: x36 :: x37 :: x38 :: x39 :: x40 :: x41 :: x42 :: x43 :: x44 :: x45 :: x46 :: x47 :: x48 :: x49 :: x50 :: x51 :: x52 :: x53 :: x54 :: x55 :: x56 :: x57 :: x58 :: x59 :: x60 :: x61 :: x62 :: x63 :: x64 :: x65 :: x66 :: x67 :: x68 :: x69 :: x70 :: x71 :: x72 :: x73 :: x74 :: x75 :: x76 :: x77 :: x78 :: x79 :: x80 :: x81 :: x82 :: x83 :: x84 :: x85 :: x86 :: x87 :: x88 :: x89 :: x90 :: x91 :: x92 :: x93 :: x94 :: x95 :: x96 :: x97 :: []) H (blockQ 2 (seqQ G r11_5 Q))) := by kernel_rfl
theorem wb11_2 {x0 x1 x2 x3 x4 x5 x6 x7 x8 x9 x10 x11 x12 x13 x14 x15 x16 x17 x18 x19 x20 x21 x22 x23 x24 x25 x26 x27 x28 x29 x30 x31 x32 x33 x34 x35 x36 x37 x38 x39 x40 x41 x42 x43 x44 x45 x46 x47 x48 x49 x50 x51 x52 x53 x54 x55 x56 x57 x58 x59 x60 x61 x62 x63 x64 x65 x66 x67 x68 x69 x70 x71 x72 x73 x74 x75 x76 x77 x78 x79 x80 x81 x82 x83 x84 x85 x86 x87 x88 x89 x90 x91 x92 x93 x94 x95 x96 x97 : V} {H : Heap} {Q : Cont} : wp G b11_2 (x0 :: x1 :: x2 :: x3 :: x4 :: x5 :: x6 :: x7 :: x8 :: x9 :: x10 :: x11 :: x12 :: x13 :: x14 :: x15 :: x16 :: x17 :: x18 :: x19 :: x20 :: x21 :: x22 :: x23 :: x24 :: x25 :: x26 :: x27 :: x28 :: x29 :: x30 :: x31 :: x32 :: x33 :: x34 :: x35 :: x36 :: x37 :: x38 :: x39 :: x40 :: x41 :: x42 :: x43 :: x44 :: x45 :: x46 :: x47 :: x48 :: x49 :: x50 :: x51 :: x52 :: x53 :: x54 :: x55 :: x56 :: x57 :: x58 :: x59 :: x60 :: x61 :: x62 :: x63 :: x64 :: x65 :: x66 :: x67 :: x68 :: x69 :: x70 :: x71 :: x72 :: x73 :: x74 :: x75 :: x76 :: x77 :: x78 :: x79 :: x80 :: x81 :: x82 :: x83 :: x84 :: x85 :: x86 :: x87 :: x88 :: x89 :: x90 :: x91 :: x92 :: x93 :: x94 :: x95 :: x96 :: x97 :: []) H Q = (
    bd (fadrV 1 x1) fun a52_1 => 
    bd (ldV H a52_1 1 false) fun a53_2 => 
    bd (lensV a53_2) fun a54_3 => 
    bd (binV .lss x4 a54_3) fun a55_4 => 
    ifB a55_4
      (bd (fadrV 1 x1) fun a58_5 => 
      bd (ldV H a58_5 1 false) fun a59_6 => 
      bd (iadrV 2 a59_6 x4) fun a61_8 => 
      bd (fadrV 1 a61_8) fun a62_9 => 
      bd (ldV H a62_9 1 false) fun a63_10 => 
      bd (lensV a63_10) fun a64_11 => 
      bd (binV .gtr a64_11 (.int .i64 5)) fun a65_12 => 
      wpg (gdV a65_12 false) H (fun k => bd (fadrV 1 x1) fun a67_14i => k a67_14i H) fun a67_14 ha67_14 => 
      wpg (gdV a65_12 false) ha67_14 (fun k => bd (ldV ha67_14 a67_14 1 false) fun a68_15i => k a68_15i ha67_14) fun a68_15 ha68_15 => 
      wpg (gdV a65_12 false) ha68_15 (fun k => k x4 ha68_15) fun a69_16 ha69_16 => 
      wpg (gdV a65_12 false) ha69_16 (fun k => bd (iadrV 2 a68_15 a69_16) fun a70_17i => k a70_17i ha69_16) fun a70_17 ha70_17 => 
      wpg (gdV a65_12 false) ha70_17 (fun k => bd (fadrV 0 a70_17) fun a71_18i => k a71_18i ha70_17) fun a71_18 ha71_18 => 
      wpg (gdV a65_12 false) ha71_18 (fun k => bd (ldV ha71_18 a71_18 1 false) fun a72_19i => k a72_19i ha71_18) fun a72_19 ha72_19 => 
      wpg (gdV a65_12 false) ha72_19 (fun k => bd (lentV a72_19) fun a73_20i => k a73_20i ha72_19) fun a73_20 ha73_20 => 
      wpg (gdV a65_12 false) ha73_20 (fun k => bd (binV .gtr a73_20 (.int .i64 50)) fun a74_21i => k a74_21i ha73_20) fun a74_21 ha74_21 => 
      bd (pickV a65_12 (.bool true) a74_21) fun a75_22 => 
      ifB a75_22
        (Q .r (x0 :: x1 :: (.bool false) :: x3 :: x4 :: x5 :: x6 :: x7 :: x8 :: x9 :: x10 :: x11 :: x12 :: x13 :: x14 :: x15 :: x16 :: x17 :: x18 :: x19 :: x20 :: x21 :: x22 :: x23 :: x24 :: x25 :: x26 :: x27 :: x28 :: x29 :: x30 :: x31 :: x32 :: x33 :: x34 :: x35 :: x36 :: x37 :: x38 :: x39 :: x40 :: x41 :: x42 :: x43 :: x44 :: x45 :: x46 :: x47 :: x48 :: x49 :: x50 :: x4 :: a52_1 :: a53_2 :: a54_3 :: a55_4 :: x56 :: x57 :: a58_5 :: a59_6 :: x4 :: a61_8 :: a62_9 :: a63_10 :: a64_11 :: a65_12 :: a65_12 :: a67_14 :: a68_15 :: a69_16 :: a70_17 :: a71_18 :: a72_19 :: a73_20 :: a74_21 :: a75_22 :: x76 :: x77 :: x78 :: x79 :: x80 :: x81 :: x82 :: x83 :: x84 :: x85 :: x86 :: x87 :: x88 :: x89 :: x90 :: x91 :: x92 :: x93 :: x94 :: x95 :: x96 :: x97 :: []) ha74_21)
        (Lp G b11_3 (x0 :: x1 :: x2 :: x3 :: x4 :: (.int .i64 0) :: x6 :: x7 :: x8 :: x9 :: x10 :: x11 :: x12 :: x13 :: x14 :: x15 :: x16 :: x17 :: x18 :: x19 :: x20 :: x21 :: x22 :: x23 :: x24 :: x25 :: x26 :: x27 :: x28 :: x29 :: x30 :: x31 :: x32 :: x33 :: x34 :: x35 :: x36 :: x37 :: x38 :: x39 :: x40 :: x41 :: x42 :: x43 :: x44 :: x45 :: x46 :: x47 :: x48 :: x49 :: x50 :: x4 :: a52_1 :: a53_2 :: a54_3 :: a55_4 :: x56 :: x57 :: a58_5 :: a59_6 :: x4 :: a61_8 :: a62_9 :: a63_10 :: a64_11 :: a65_12 :: a65_12 :: a67_14 :: a68_15 :: a69_16 :: a70_17 :: a71_18 :: a72_19 :: a73_20 :: a74_21 :: a75_22 :: x76 :: x77 :: x78 :: x79 :: x80 :: x81 :: x82 :: x83 :: x84 :: x85 :: x86 :: x87 :: x88 :: x89 :: x90 :: x91 :: x92 :: x93 :: x94 :: x95 :: x96 :: x97 :: []) ha74_21 (blockQ 4 (blockQ 3 (seqQ G r11_4 Q)))))
      (Q (.e 2) (x0 :: x1 :: x2 :: x3 :: x4 :: x5 :: x6 :: x7 :: x8 :: x9 :: x10 :: x11 :: x12 :: x13 :: x14 :: x15 :: x16 :: x17 :: x18 :: x19 :: x20 :: x21 :: x22 :: x23 :: x24 :: x25 :: x26 :: x27 :: x28 :: x29 :: x30 :: x31 :: x32 :: x33 :: x34 :: x35 :: x36 :: x37 :: x38 :: x39 :: x40 :: x41 :: x42 :: x43 :: x44 :: x45 :: x46 :: x47 :: x48 :: x49 :: x50 :: x4 :: a52_1 :: a53_2 :: a54_3 :: a55_4 :: x56 :: x57 :: x58 :: x59 :: x60 :: x61 :: x62 :: x63 :: x64 :: x65 :: x66 :: x67 :: x68 :: x69 :: x70 :: x71 :: x72 :: x73 :: x74 :: x75 :: x76 :: x77 :: x78 :: x79 :: x80 :: x81 :: x82 :: x83 :: x84 :: x85 :: x86 :: x87 :: x88 :: x89 :: x90 :: x91 :: x92 :: x93 :: x94 :: x95 :: x96 :: x97 :: []) H)) := by kernel_rfl
def Sb11_2 (I : Nat → V → V → Heap → Prop) : Nat → List V → Heap → Prop := fun i ts H => ts.length = 98 ∧ I i (ts.getD 1 undefV) (ts.getD 4 undefV) H
@[simp] theorem Sb11_2_eq {I : Nat → V → V → Heap → Prop} {i : Nat} {x0 x1 x2 x3 x4 x5 x6 x7 x8 x9 x10 x11 x12 x13 x14 x15 x16 x17 x18 x19 x20 x21 x22 x23 x24 x25 x26 x27 x28 x29 x30 x31 x32 x33 x34 x35 x36 x37 x38 x39 x40 x41 x42 x43 x44 x45 x46 x47 x48 x49 x50 x51 x52 x53 x54 x55 x56 x57 x58 x59 x60 x61 x62 x63 x64 x65 x66 x67 x68 x69 x70 x71 x72 x73 x74 x75 x76 x77 x78 x79 x80 x81 x82 x83 x84 x85 x86 x87 x88 x89 x90 x91 x92 x93 x94 x95 x96 x97 : V} {H : Heap} : Sb11_2 I i (x0 :: x1 :: x2 :: x3 :: x4 :: x5 :: x6 :: x7 :: x8 :: x9 :: x10 :: x11 :: x12 :: x13 :: x14 :: x15 :: x16 :: x17 :: x18 :: x19 :: x20 :: x21 :: x22 :: x23 :: x24 :: x25 :: x26 :: x27 :: x28 :: x29 :: x30 :: x31 :: x32 :: x33 :: x34 :: x35 :: x36 :: x37 :: x38 :: x39 :: x40 :: x41 :: x42 :: x43 :: x44 :: x45 :: x46 :: x47 :: x48 :: x49 :: x50 :: x51 :: x52 :: x53 :: x54 :: x55 :: x56 :: x57 :: x58 :: x59 :: x60 :: x61 :: x62 :: x63 :: x64 :: x65 :: x66 :: x67 :: x68 :: x69 :: x70 :: x71 :: x72 :: x73 :: x74 :: x75 :: x76 :: x77 :: x78 :: x79 :: x80 :: x81 :: x82 :: x83 :: x84 :: x85 :: x86 :: x87 :: x88 :: x89 :: x90 :: x91 :: x92 :: x93 :: x94 :: x95 :: x96 :: x97 :: []) H = I i x1 x4 H := propext ⟨fun h => h.2, fun h => ⟨rfl, h⟩⟩
theorem ub11_2 {Q : Cont} (M : Nat) (I : Nat → V → V → Heap → Prop) (step : ∀ i, i ≤ M → ∀ (x1 x4 : V) (H : Heap), I i x1 x4 H → ∀ (x0 x2 x3 x5 x6 x7 x8 x9 x10 x11 x12 x13 x14 x15 x16 x17 x18 x19 x20 x21 x22 x23 x24 x25 x26 x27 x28 x29 x30 x31 x32 x33 x34 x35 x36 x37 x38 x39 x40 x41 x42 x43 x44 x45 x46 x47 x48 x49 x50 x51 x52 x53 x54 x55 x56 x57 x58 x59 x60 x61 x62 x63 x64 x65 x66 x67 x68 x69 x70 x71 x72 x73 x74 x75 x76 x77 x78 x79 x80 x81 x82 x83 x84 x85 x86 x87 x88 x89 x90 x91 x92 x93 x94 x95 x96 x97 : V), wp G b11_2 (x0 :: x1 :: x2 :: x3 :: x4 :: x5 :: x6 :: x7 :: x8 :: x9 :: x10 :: x11 :: x12 :: x13 :: x14 :: x15 :: x16 :: x17 :: x18 :: x19 :: x20 :: x21 :: x22 :: x23 :: x24 :: x25 :: x26 :: x27 :: x28 :: x29 :: x30 :: x31 :: x32 :: x33 :: x34 :: x35 :: x36 :: x37 :: x38 :: x39 :: x40 :: x41 :: x42 :: x43 :: x44 :: x45 :: x46 :: x47 :: x48 :: x49 :: x50 :: x51 :: x52 :: x53 :: x54 :: x55 :: x56 :: x57 :: x58 :: x59 :: x60 :: x61 :: x62 :: x63 :: x64 :: x65 :: x66 :: x67 :: x68 :: x69 :: x70 :: x71 :: x72 :: x73 :: x74 :: x75 :: x76 :: x77 :: x78 :: x79 :: x80 :: x81 :: x82 :: x83 :: x84 :: x85 :: x86 :: x87 :: x88 :: x89 :: x90 :: x91 :: x92 :: x93 :: x94 :: x95 :: x96 :: x97 :: []) H (upQ M (Sb11_2 I) i Q)) (i : Nat) (hi : i ≤ M) {x0 x1 x2 x3 x4 x5 x6 x7 x8 x9 x10 x11 x12 x13 x14 x15 x16 x17 x18 x19 x20 x21 x22 x23 x24 x25 x26 x27 x28 x29 x30 x31 x32 x33 x34 x35 x36 x37 x38 x39 x40 x41 x42 x43 x44 x45 x46 x47 x48 x49 x50 x51 x52 x53 x54 x55 x56 x57 x58 x59 x60 x61 x62 x63 x64 x65 x66 x67 x68 x69 x70 x71 x72 x73 x74 x75 x76 x77 x78 x79 x80 x81 x82 x83 x84 x85 x86 x87 x88 x89 x90 x91 x92 x93 x94 x95 x96 x97 : V} {H : Heap} (h : I i x1 x4 H) : Lp G b11_2 (x0 :: x1 :: x2 :: x3 :: x4 :: x5 :: x6 :: x7 :: x8 :: x9 :: x10 :: x11 :: x12 :: x13 :: x14 :: x15 :: x16 :: x17 :: x18 :: x19 :: x20 :: x21 :: x22 :: x23 :: x24 :: x25 :: x26 :: x27 :: x28 :: x29 :: x30 :: x31 :: x32 :: x33 :: x34 :: x35 :: x36 :: x37 :: x38 :: x39 :: x40 :: x41 :: x42 :: x43 :: x44 :: x45 :: x46 :: x47 :: x48 :: x49 :: x50 :: x51 :: x52 :: x53 :: x54 :: x55 :: x56 :: x57 :: x58 :: x59 :: x60 :: x61 :: x62 :: x63 :: x64 :: x65 :: x66 :: x67 :: x68 :: x69 :: x70 :: x71 :: x72 :: x73 :: x74 :: x75 :: x76 :: x77 :: x78 :: x79 :: x80 :: x81 :: x82 :: x83 :: x84 :: x85 :: x86 :: x87 :: x88 :: x89 :: x90 :: x91 :: x92 :: x93 :: x94 :: x95 :: x96 :: x97 :: []) H Q :=
  Lp.up (S := Sb11_2 I) (fun i ts H hi hS => (congrArg (fun t => wp G b11_2 t H (upQ M (Sb11_2 I) i Q)) (tabF_eq hS.1)).mpr (step i hi (ts.getD 1 undefV) (ts.getD 4 undefV) H hS.2 (ts.getD 0 undefV) (ts.getD 2 undefV) (ts.getD 3 undefV) (ts.getD 5 undefV) (ts.getD 6 undefV) (ts.getD 7 undefV) (ts.getD 8 undefV) (ts.getD 9 undefV) (ts.getD 10 undefV) (ts.getD 11 undefV) (ts.getD 12 undefV) (ts.getD 13 undefV) (ts.getD 14 undefV) (ts.getD 15 undefV) (ts.getD 16 undefV) (ts.getD 17 undefV) (ts.getD 18 undefV) (ts.getD 19 undefV) (ts.getD 20 undefV) (ts.getD 21 undefV) (ts.getD 22 undefV) (ts.getD 23 undefV) (ts.getD 24 undefV) (ts.getD 25 undefV) (ts.getD 26 undefV) (ts.getD 27 undefV) (ts.getD 28 undefV) (ts.getD 29 undefV) (ts.getD 30 undefV) (ts.getD 31 undefV) (ts.getD 32 undefV) (ts.getD 33 undefV) (ts.getD 34 undefV) (ts.getD 35 undefV) (ts.getD 36 undefV) (ts.getD 37 undefV) (ts.getD 38 undefV) (ts.getD 39 undefV) (ts.getD 40 undefV) (ts.getD 41 undefV) (ts.getD 42 undefV) (ts.getD 43 undefV) (ts.getD 44 undefV) (ts.getD 45 undefV) (ts.getD 46 undefV) (ts.getD 47 undefV) (ts.getD 48 undefV) (ts.getD 49 undefV) (ts.getD 50 undefV) (ts.getD 51 undefV) (ts.getD 52 undefV) (ts.getD 53 undefV) (ts.getD 54 undefV) (ts.getD 55 undefV) (ts.getD 56 undefV) (ts.getD 57 undefV) (ts.getD 58 undefV) (ts.getD 59 undefV) (ts.getD 60 undefV) (ts.getD 61 undefV) (ts.getD 62 undefV) (ts.getD 63 undefV) (ts.getD 64 undefV) (ts.getD 65 undefV) (ts.getD 66 undefV) (ts.getD 67 undefV) (ts.getD 68 undefV) (ts.getD 69 undefV) (ts.getD 70 undefV) (ts.getD 71 undefV) (ts.getD 72 undefV) (ts.getD 73 undefV) (ts.getD 74 undefV) (ts.getD 75 undefV) (ts.getD 76 undefV) (ts.getD 77 undefV) (ts.getD 78 undefV) (ts.getD 79 undefV) (ts.getD 80 undefV) (ts.getD 81 undefV) (ts.getD 82 undefV) (ts.getD 83 undefV) (ts.getD 84 undefV) (ts.getD 85 undefV) (ts.getD 86 undefV) (ts.getD 87 undefV) (ts.getD 88 undefV) (ts.getD 89 undefV) (ts.getD 90 undefV) (ts.getD 91 undefV) (ts.getD 92 undefV) (ts.getD 93 undefV) (ts.getD 94 undefV) (ts.getD 95 undefV) (ts.getD 96 undefV) (ts.getD 97 undefV))) _ i _ H rfl hi ⟨rfl, h⟩
theorem wb11_3 {x0 x1 x2 x3 x4 x5 x6 x7 x8 x9 x10 x11 x12 x13 x14 x15 x16 x17 x18 x19 x20 x21 x22 x23 x24 x25 x26 x27 x28 x29 x30 x31 x32 x33 x34 x35 x36 x37 x38 x39 x40 x41 x42 x43 x44 x45 x46 x47 x48 x49 x50 x51 x52 x53 x54 x55 x56 x57 x58 x59 x60 x61 x62 x63 x64 x65 x66 x67 x68 x69 x70 x71 x72 x73 x74 x75 x76 x77 x78 x79 x80 x81 x82 x83 x84 x85 x86 x87 x88 x89 x90 x91 x92 x93 x94 x95 x96 x97 : V} {H : Heap} {Q : Cont} : wp G b11_3 (x0 :: x1 :: x2 :: x3 :: x4 :: x5 :: x6 :: x7 :: x8 :: x9 :: x10 :: x11 :: x12 :: x13 :: x14 :: x15 :: x16 :: x17 :: x18 :: x19 :: x20 :: x21 :: x22 :: x23 :: x24 :: x25 :: x26 :: x27 :: x28 :: x29 :: x30 :: x31 :: x32 :: x33 :: x34 :: x35 :: x36 :: x37 :: x38 :: x39 :: x40 :: x41 :: x42 :: x43 :: x44 :: x45 :: x46 :: x47 :: x48 :: x49 :: x50 :: x51 :: x52 :: x53 :: x54 :: x55 :: x56 :: x57 :: x58 :: x59 :: x60 :: x61 :: x62 :: x63 :: x64 :: x65 :: x66 :: x67 :: x68 :: x69 :: x70 :: x71 :: x72 :: x73 :: x74 :: x75 :: x76 :: x77 :: x78 :: x79 :: x80 :: x81 :: x82 :: x83 :: x84 :: x85 :: x86 :: x87 :: x88 :: x89 :: x90 :: x91 :: x92 :: x93 :: x94 :: x95 :: x96 :: x97 :: []) H Q = (
    bd (fadrV 1 x1) fun a77_1 => 
    bd (ldV H a77_1 1 false) fun a78_2 => 
    bd (iadrV 2 a78_2 x4) fun a80_4 => 
    bd (fadrV 1 a80_4) fun a81_5 => 
    bd (ldV H a81_5 1 false) fun a82_6 => 
    bd (lensV a82_6) fun a83_7 => 
    bd (binV .lss x5 a83_7) fun a84_8 => 
    ifB a84_8
      (bd (fadrV 1 x1) fun a87_9 => 
      bd (ldV H a87_9 1 false) fun a88_10 => 
      bd (iadrV 2 a88_10 x4) fun a90_12 => 
      bd (fadrV 1 a90_12) fun a91_13 => 
      bd (ldV H a91_13 1 false) fun a92_14 => 
      bd (iadrV 1 a92_14 x5) fun a94_16 => 
      bd (ldV H a94_16 1 false) fun a95_17 => 
      bd (lentV a95_17) fun a96_18 => 
      bd (binV .gtr a96_18 (.int .i64 50)) fun a97_19 => 
      ifB a97_19
        (Q .r (x0 :: x1 :: (.bool false) :: x3 :: x4 :: x5 :: x6 :: x7 :: x8 :: x9 :: x10 :: x11 :: x12 :: x13 :: x14 :: x15 :: x16 :: x17 :: x18 :: x19 :: x20 :: x21 :: x22 :: x23 :: x24 :: x25 :: x26 :: x27 :: x28 :: x29 :: x30 :: x31 :: x32 :: x33 :: x34 :: x35 :: x36 :: x37 :: x38 :: x39 :: x40 :: x41 :: x42 :: x43 :: x44 :: x45 :: x46 :: x47 :: x48 :: x49 :: x50 :: x51 :: x52 :: x53 :: x54 :: x55 :: x56 :: x57 :: x58 :: x59 :: x60 :: x61 :: x62 :: x63 :: x64 :: x65 :: x66 :: x67 :: x68 :: x69 :: x70 :: x71 :: x72 :: x73 :: x74 :: x75 :: x5 :: a77_1 :: a78_2 :: x4 :: a80_4 :: a81_5 :: a82_6 :: a83_7 :: a84_8 :: x85 :: x86 :: a87_9 :: a88_10 :: x4 :: a90_12 :: a91_13 :: a92_14 :: x5 :: a94_16 :: a95_17 :: a96_18 :: a97_19 :: []) H)
        (bd (binV .add x5 (.int .i64 1)) fun a86_22 => 
        Q .n (x0 :: x1 :: x2 :: x3 :: x4 :: a86_22 :: x6 :: x7 :: x8 :: x9 :: x10 :: x11 :: x12 :: x13 :: x14 :: x15 :: x16 :: x17 :: x18 :: x19 :: x20 :: x21 :: x22 :: x23 :: x24 :: x25 :: x26 :: x27 :: x28 :: x29 :: x30 :: x31 :: x32 :: x33 :: x34 :: x35 :: x36 :: x37 :: x38 :: x39 :: x40 :: x41 :: x42 :: x43 :: x44 :: x45 :: x46 :: x47 :: x48 :: x49 :: x50 :: x51 :: x52 :: x53 :: x54 :: x55 :: x56 :: x57 :: x58 :: x59 :: x60 :: x61 :: x62 :: x63 :: x64 :: x65 :: x66 :: x67 :: x68 :: x69 :: x70 :: x71 :: x72 :: x73 :: x74 :: x75 :: x5 :: a77_1 :: a78_2 :: x4 :: a80_4 :: a81_5 :: a82_6 :: a83_7 :: a84_8 :: x5 :: a86_22 :: a87_9 :: a88_10 :: x4 :: a90_12 :: a91_13 :: a92_14 :: x5 :: a94_16 :: a95_17 :: a96_18 :: a97_19 :: []) H))
      (Q (.e 4) (x0 :: x1 :: x2 :: x3 :: x4 :: x5 :: x6 :: x7 :: x8 :: x9 :: x10 :: x11 :: x12 :: x13 :: x14 :: x15 :: x16 :: x17 :: x18 :: x19 :: x20 :: x21 :: x22 :: x23 :: x24 :: x25 :: x26 :: x27 :: x28 :: x29 :: x30 :: x31 :: x32 :: x33 :: x34 :: x35 :: x36 :: x37 :: x38 :: x39 :: x40 :: x41 :: x42 :: x43 :: x44 :: x45 :: x46 :: x47 :: x48 :: x49 :: x50 :: x51 :: x52 :: x53 :: x54 :: x55 :: x56 :: x57 :: x58 :: x59 :: x60 :: x61 :: x62 :: x63 :: x64 :: x65 :: x66 :: x67 :: x68 :: x69 :: x70 :: x71 :: x72 :: x73 :: x74 :: x75 :: x5 :: a77_1 :: a78_2 :: x4 :: a80_4 :: a81_5 :: a82_6 :: a83_7 :: a84_8 :: x85 :: x86 :: x87 :: x88 :: x89 :: x90 :: x91 :: x92 :: x93 :: x94 :: x95 :: x96 :: x97 :: []) H)) := by kernel_rfl
def Sb11_3 (I : Nat → V → V → V → Heap → Prop) : Nat → List V → Heap → Prop := fun i ts H => ts.length = 98 ∧ I i (ts.getD 1 undefV) (ts.getD 4 undefV) (ts.getD 5 undefV) H
@[simp] theorem Sb11_3_eq {I : Nat → V → V → V → Heap → Prop} {i : Nat} {x0 x1 x2 x3 x4 x5 x6 x7 x8 x9 x10 x11 x12 x13 x14 x15 x16 x17 x18 x19 x20 x21 x22 x23 x24 x25 x26 x27 x28 x29 x30 x31 x32 x33 x34 x35 x36 x37 x38 x39 x40 x41 x42 x43 x44 x45 x46 x47 x48 x49 x50 x51 x52 x53 x54 x55 x56 x57 x58 x59 x60 x61 x62 x63 x64 x65 x66 x67 x68 x69 x70 x71 x72 x73 x74 x75 x76 x77 x78 x79 x80 x81 x82 x83 x84 x85 x86 x87 x88 x89 x90 x91 x92 x93 x94 x95 x96 x97 : V} {H : Heap} : Sb11_3 I i (x0 :: x1 :: x2 :: x3 :: x4 :: x5 :: x6 :: x7 :: x8 :: x9 :: x10 :: x11 :: x12 :: x13 :: x14 :: x15 :: x16 :: x17 :: x18 :: x19 :: x20 :: x21 :: x22 :: x23 :: x24 :: x25 :: x26 :: x27 :: x28 :: x29 :: x30 :: x31 :: x32 :: x33 :: x34 :: x35 :: x36 :: x37 :: x38 :: x39 :: x40 :: x41 :: x42 :: x43 :: x44 :: x45 :: x46 :: x47 :: x48 :: x49 :: x50 :: x51 :: x52 :: x53 :: x54 :: x55 :: x56 :: x57 :: x58 :: x59 :: x60 :: x61 :: x62 :: x63 :: x64 :: x65 :: x66 :: x67 :: x68 :: x69 :: x70 :: x71 :: x72 :: x73 :: x74 :: x75 :: x76 :: x77 :: x78 :: x79 :: x80 :: x81 :: x82 :: x83 :: x84 :: x85 :: x86 :: x87 :: x88 :: x89 :: x90 :: x91 :: x92 :: x93 :: x94 :: x95 :: x96 :: x97 :: []) H = I i x1 x4 x5 H := propext ⟨fun h => h.2, fun h => ⟨rfl, h⟩⟩
theorem ub11_3 {Q : Cont} (M : Nat) (I : Nat → V → V → V → Heap → Prop) (step : ∀ i, i ≤ M → ∀ (x1 x4 x5 : V) (H : Heap), I i x1 x4 x5 H → ∀ (x0 x2 x3 x6 x7 x8 x9 x10 x11 x12 x13 x14 x15 x16 x17 x18 x19 x20 x21 x22 x23 x24 x25 x26 x27 x28 x29 x30 x31 x32 x33 x34 x35 x36 x37 x38 x39 x40 x41 x42 x43 x44 x45 x46 x47 x48 x49 x50 x51 x52 x53 x54 x55 x56 x57 x58 x59 x60 x61 x62 x63 x64 x65 x66 x67 x68 x69 x70 x71 x72 x73 x74 x75 x76 x77 x78 x79 x80 x81 x82 x83 x84 x85 x86 x87 x88 x89 x90 x91 x92 x93 x94 x95 x96 x97 : V), wp G b11_3 (x0 :: x1 :: x2 :: x3 :: x4 :: x5 :: x6 :: x7 :: x8 :: x9 :: x10 :: x11 :: x12 :: x13 :: x14 :: x15 :: x16 :: x17 :: x18 :: x19 :: x20 :: x21 :: x22 :: x23 :: x24 :: x25 :: x26 :: x27 :: x28 :: x29 :: x30 :: x31 :: x32 :: x33 :: x34 :: x35 :: x36 :: x37 :: x38 :: x39 :: x40 :: x41 :: x42 :: x43 :: x44 :: x45 :: x46 :: x47 :: x48 :: x49 :: x50 :: x51 :: x52 :: x53 :: x54 :: x55 :: x56 :: x57 :: x58 :: x59 :: x60 :: x61 :: x62 :: x63 :: x64 :: x65 :: x66 :: x67 :: x68 :: x69 :: x70 :: x71 :: x72 :: x73 :: x74 :: x75 :: x76 :: x77 :: x78 :: x79 :: x80 :: x81 :: x82 :: x83 :: x84 :: x85 :: x86 :: x87 :: x88 :: x89 :: x90 :: x91 :: x92 :: x93 :: x94 :: x95 :: x96 :: x97 :: []) H (upQ M (Sb11_3 I) i Q)) (i : Nat) (hi : i ≤ M) {x0 x1 x2 x3 x4 x5 x6 x7 x8 x9 x10 x11 x12 x13 x14 x15 x16 x17 x18 x19 x20 x21 x22 x23 x24 x25 x26 x27 x28 x29 x30 x31 x32 x33 x34 x35 x36 x37 x38 x39 x40 x41 x42 x43 x44 x45 x46 x47 x48 x49 x50 x51 x52 x53 x54 x55 x56 x57 x58 x59 x60 x61 x62 x63 x64 x65 x66 x67 x68 x69 x70 x71 x72 x73 x74 x75 x76 x77 x78 x79 x80 x81 x82 x83 x84 x85 x86 x87 x88 x89 x90 x91 x92 x93 x94 x95 x96 x97 : V} {H : Heap} (h : I i x1 x4 x5 H) : Lp G b11_3 (x0 :: x1 :: x2 :: x3 :: x4 :: x5 :: x6 :: x7 :: x8 :: x9 :: x10 :: x11 :: x12 :: x13 :: x14 :: x15 :: x16 :: x17 :: x18 :: x19 :: x20 :: x21 :: x22 :: x23 :: x24 :: x25 :: x26 :: x27 :: x28 :: x29 :: x30 :: x31 :: x32 :: x33 :: x34 :: x35 :: x36 :: x37 :: x38 :: x39 :: x40 :: x41 :: x42 :: x43 :: x44 :: x45 :: x46 :: x47 :: x48 :: x49 :: x50 :: x51 :: x52 :: x53 :: x54 :: x55 :: x56 :: x57 :: x58 :: x59 :: x60 :: x61 :: x62 :: x63 :: x64 :: x65 :: x66 :: x67 :: x68 :: x69 :: x70 :: x71 :: x72 :: x73 :: x74 :: x75 :: x76 :: x77 :: x78 :: x79 :: x80 :: x81 :: x82 :: x83 :: x84 :: x85 :: x86 :: x87 :: x88 :: x89 :: x90 :: x91 :: x92 :: x93 :: x94 :: x95 :: x96 :: x97 :: []) H Q :=
  Lp.up (S := Sb11_3 I) (fun i ts H hi hS => (congrArg (fun t => wp G b11_3 t H (upQ M (Sb11_3 I) i Q)) (tabF_eq hS.1)).mpr (step i hi (ts.getD 1 undefV) (ts.getD 4 undefV) (ts.getD 5 undefV) H hS.2 (ts.getD 0 undefV) (ts.getD 2 undefV) (ts.getD 3 undefV) (ts.getD 6 undefV) (ts.getD 7 undefV) (ts.getD 8 undefV) (ts.getD 9 undefV) (ts.getD 10 undefV) (ts.getD 11 undefV) (ts.getD 12 undefV) (ts.getD 13 undefV) (ts.getD 14 undefV) (ts.getD 15 undefV) (ts.getD 16 undefV) (ts.getD 17 undefV) (ts.getD 18 undefV) (ts.getD 19 undefV) (ts.getD 20 undefV) (ts.getD 21 undefV) (ts.getD 22 undefV) (ts.getD 23 undefV) (ts.getD 24 undefV) (ts.getD 25 undefV) (ts.getD 26 undefV) (ts.getD 27 undefV) (ts.getD 28 undefV) (ts.getD 29 undefV) (ts.getD 30 undefV) (ts.getD 31 undefV) (ts.getD 32 undefV) (ts.getD 33 undefV) (ts.getD 34 undefV) (ts.getD 35 undefV) (ts.getD 36 undefV) (ts.getD 37 undefV) (ts.getD 38 undefV) (ts.getD 39 undefV) (ts.getD 40 undefV) (ts.getD 41 undefV) (ts.getD 42 undefV) (ts.getD 43 undefV) (ts.getD 44 undefV) (ts.getD 45 undefV) (ts.getD 46 undefV) (ts.getD 47 undefV) (ts.getD 48 undefV) (ts.getD 49 undefV) (ts.getD 50 undefV) (ts.getD 51 undefV) (ts.getD 52 undefV) (ts.getD 53 undefV) (ts.getD 54 undefV) (ts.getD 55 undefV) (ts.getD 56 undefV) (ts.getD 57 undefV) (ts.getD 58 undefV) (ts.getD 59 undefV) (ts.getD 60 undefV) (ts.getD 61 undefV) (ts.getD 62 undefV) (ts.getD 63 undefV) (ts.getD 64 undefV) (ts.getD 65 undefV) (ts.getD 66 undefV) (ts.getD 67 undefV) (ts.getD 68 undefV) (ts.getD 69 undefV) (ts.getD 70 undefV) (ts.getD 71 undefV) (ts.getD 72 undefV) (ts.getD 73 undefV) (ts.getD 74 undefV) (ts.getD 75 undefV) (ts.getD 76 undefV) (ts.getD 77 undefV) (ts.getD 78 undefV) (ts.getD 79 undefV) (ts.getD 80 undefV) (ts.getD 81 undefV) (ts.getD 82 undefV) (ts.getD 83 undefV) (ts.getD 84 undefV) (ts.getD 85 undefV) (ts.getD 86 undefV) (ts.getD 87 undefV) (ts.getD 88 undefV) (ts.getD 89 undefV) (ts.getD 90 undefV) (ts.getD 91 undefV) (ts.getD 92 undefV) (ts.getD 93 undefV) (ts.getD 94 undefV) (ts.getD 95 undefV) (ts.getD 96 undefV) (ts.getD 97 undefV))) _ i _ H rfl hi ⟨rfl, h⟩
theorem wr11_4 {x0 x1 x2 x3 x4 x5 x6 x7 x8 x9 x10 x11 x12 x13 x14 x15 x16 x17 x18 x19 x20 x21 x22 x23 x24 x25 x26 x27 x28 x29 x30 x31 x32 x33 x34 x35 x36 x37 x38 x39 x40 x41 x42 x43 x44 x45 x46 x47 x48 x49 x50 x51 x52 x53 x54 x55 x56 x57 x58 x59 x60 x61 x62 x63 x64 x65 x66 x67 x68 x69 x70 x71 x72 x73 x74 x75 x76 x77 x78 x79 x80 x81 x82 x83 x84 x85 x86 x87 x88 x89 x90 x91 x92 x93 x94 x95 x96 x97 : V} {H : Heap} {Q : Cont} : wp G r11_4 (x0 :: x1 :: x2 :: x3 :: x4 :: x5 :: x6 :: x7 :: x8 :: x9 :: x10 :: x11 :: x12 :: x13 :: x14 :: x15 :: x16 :: x17 :: x18 :: x19 :: x20 :: x21 :: x22 :: x23 :: x24 :: x25 :: x26 :: x27 :: x28 :: x29 :: x30 :: x31 :: x32 :: x33 :: x34 :: x35 :: x36 :: x37 :: x38 :: x39 :: x40 :: x41 :: x42 :: x43 :: x44 :: x45 :: x46 :: x47 :: x48 :: x49 :: x50 :: x51 :: x52 :: x53 :: x54 :: x55 :: x56 :: x57 :: x58 :: x59 :: x60 :: x61 :: x62 :: x63 :: x64 :: x65 :: x66 :: x67 :: x68 :: x69 :: x70 :: x71 :: x72 :: x73 :: x74 :: x75 :: x76 :: x77 :: x78 :: x79 :: x80 :: x81 :: x82 :: x83 :: x84 :: x85 :: x86 :: x87 :: x88 :: x89 :: x90 :: x91 :: x92 :: x93 :: x94 :: x95 :: x96 :: x97 :: []) H Q = (
    bd (binV .add x4 (.int .i64 1)) fun a57_1 => 
    Q .n (x0 :: x1 :: x2 :: x3 :: a57_1 :: x5 :: x6 :: x7 :: x8 :: x9 :: x10 :: x11 :: x12 :: x13 :: x14 :: x15 :: x16 :: x17 :: x18 :: x19 :: x20 :: x21 :: x22 :: x23 :: x24 :: x25 :: x26 :: x27 :: x28 :: x29 :: x30 :: x31 :: x32 :: x33 :: x34 :: x35 :: x36 :: x37 :: x38 :: x39 :: x40 :: x41 :: x42 :: x43 :: x44 :: x45 :: x46 :: x47 :: x48 :: x49 :: x50 :: x51 :: x52 :: x53 :: x54 :: x55 :: x4 :: a57_1 :: x58 :: x59 :: x60 :: x61 :: x62 :: x63 :: x64 :: x65 :: x66 :: x67 :: x68 :: x69 :: x70 :: x71 :: x72 :: x73 :: x74 :: x75 :: x76 :: x77 :: x78 :: x79 :: x80 :: x81 :: x82 :: x83 :: x84 :: x85 :: x86 :: x87 :: x88 :: x89 :: x90 :: x91 :: x92 :: x93 :: x94 :: x95 :: x96 :: x97 :: []) H) := by kernel_rfl
theorem wr11_5 {x0 x1 x2 x3 x4 x5 x6 x7 x8 x9 x10 x11 x12 x13 x14 x15 x16 x17 x18 x19 x20 x21 x22 x23 x24 x25 x26 x27 x28 x29 x30 x31 x32 x33 x34 x35 x36 x37 x38 x39 x40 x41 x42 x43 x44 x45 x46 x47 x48 x49 x50 x51 x52 x53 x54 x55 x56 x57 x58 x59 x60 x61 x62 x63 x64 x65 x66 x67 x68 x69 x70 x71 x72 x73 x74 x75 x76 x77 x78 x79 x80 x81 x82 x83 x84 x85 x86 x87 x88 x89 x90 x91 x92 x93 x94 x95 x96 x97 : V} {H : Heap} {Q : Cont} : wp G r11_5 (x0 :: x1 :: x2 :: x3 :: x4 :: x5 :: x6 :: x7 :: x8 :: x9 :: x10 :: x11 :: x12 :: x13 :: x14 :: x15 :: x16 :: x17 :: x18 :: x19 :: x20 :: x21 :: x22 :: x23 :: x24 :: x25 :: x26 :: x27 :: x28 :: x29 :: x30 :: x31 :: x32 :: x33 :: x34 :: x35 :: x36 :: x37 :: x38 :: x39 :: x40 :: x41 :: x42 :: x43 :: x44 :: x45 :: x46 :: x47 :: x48 :: x49 :: x50 :: x51 :: x52 :: x53 :: x54 :: x55 :: x56 :: x57 :: x58 :: x59 :: x60 :: x61 :: x62 :: x63 :: x64 :: x65 :: x66 :: x67 :: x68 :: x69 :: x70 :: x71 :: x72 :: x73 :: x74 :: x75 :: x76 :: x77 :: x78 :: x79 :: x80 :: x81 :: x82 :: x83 :: x84 :: x85 :: x86 :: x87 :: x88 :: x89 :: x90 :: x91 :: x92 :: x93 :: x94 :: x95 :: x96 :: x97 :: []) H Q = (
    Q .r (x0 :: x1 :: (.bool true) :: x3 :: x4 :: x5 :: x6 :: x7 :: x8 :: x9 :: x10 :: x11 :: x12 :: x13 :: x14 :: x15 :: x16 :: x17 :: x18 :: x19 :: x20 :: x21 :: x22 :: x23 :: x24 :: x25 :: x26 :: x27 :: x28 :: x29 :: x30 :: x31 :: x32 :: x33 :: x34 :: x35 :: x36 :: x37 :: x38 :: x39 :: x40 :: x41 :: x42 :: x43 :: x44 :: x45 :: x46 :: x47 :: x48 :: x49 :: x50 :: x51 :: x52 :: x53 :: x54 :: x55 :: x56 :: x57 :: x58 :: x59 :: x60 :: x61 :: x62 :: x63 :: x64 :: x65 :: x66 :: x67 :: x68 :: x69 :: x70 :: x71 :: x72 :: x73 :: x74 :: x75 :: x76 :: x77 :: x78 :: x79 :: x80 :: x81 :: x82 :: x83 :: x84 :: x85 :: x86 :: x87 :: x88 :: x89 :: x90 :: x91 :: x92 :: x93 :: x94 :: x95 :: x96 :: x97 :: []) H) := by kernel_rfl
/-! 12: dowel/task.Equal -/
theorem w12 {x0 x1 : V} {H : Heap} {k : V → Heap → Prop} : runW G i12 [x0, x1] H k = (
    bd (bxrV x0) fun a2_0 => 
    bd (bxrV x1) fun a3_1 => 
    bd (fadrV 0 a2_0) fun a6_3 => 
    bd (ldV H a6_3 1 false) fun a7_4 => 
    bd (fadrV 0 a3_1) fun a8_5 => 
    bd (ldV H a8_5 1 false) fun a9_6 => 
    (true || G.pur 31) = true ∧ Cl G 31 [a7_4, a9_6, (.fn 32 [])] H fun a10_7 ha10_7 => 
    wpg (gdV a10_7 true) ha10_7 (fun k => bd (fadrV 1 a2_0) fun a13_11i => k a13_11i ha10_7) fun a13_11 ha13_11 => 
    wpg (gdV a10_7 true) ha13_11 (fun k => bd (ldV ha13_11 a13_11 1 false) fun a14_12i => k a14_12i ha13_11) fun a14_12 ha14_12 => 
    wpg (gdV a10_7 true) ha14_12 (fun k => bd (fadrV 1 a3_1) fun a15_13i => k a15_13i ha14_12) fun a15_13 ha15_13 => 
    wpg (gdV a10_7 true) ha15_13 (fun k => bd (ldV ha15_13 a15_13 1 false) fun a16_14i => k a16_14i ha15_13) fun a16_14 ha16_14 => 
    wpg (gdV a10_7 true) ha16_14 (fun k => (true || G.pur 34) = true ∧ Cl G 34 [a14_12, a16_14, (.fn 35 [])] ha16_14 fun a17_15i ha17_15i => k a17_15i ha17_15i) fun a17_15 ha17_15 => 
    bd (pickV a10_7 a17_15 (.bool false)) fun a18_16 => 
    k a18_16 ha17_15) := by kernel_rfl
@[simp] theorem ret12 {x0 x1 x2 x3 x4 x5 x6 x7 x8 x9 x10 x11 x12 x13 x14 x15 x16 x17 x18 : V} {H : Heap} {k : V → Heap → Prop} : retQ i12 k .r [x0, x1, x2, x3, x4, x5, x6, x7, x8, x9, x10, x11, x12, x13, x14, x15, x16, x17, x18] H = k x4 H := nrfl
@[simp] theorem ret12n {x0 x1 x2 x3 x4 x5 x6 x7 x8 x9 x10 x11 x12 x13 x14 x15 x16 x17 x18 : V} {H : Heap} {k : V → Heap → Prop} : retQ i12 k .n [x0, x1, x2, x3, x4, x5, x6, x7, x8, x9, x10, x11, x12, x13, x14, x15, x16, x17, x18] H = k x4 H := nrfl
/-! 13: dowel/dowellaw49.sameShop -/
theorem w13 {x0 x1 : V} {H : Heap} {k : V → Heap → Prop} : runW G i13 [x0, x1] H k = (
    bd (bxrV x0) fun a2_0 => 
    bd (bxrV x1) fun a3_1 => 
    bd (fadrV 0 a2_0) fun a9_3 => 
    bd (ldV H a9_3 1 false) fun a10_4 => 
    bd (fadrV 0 a3_1) fun a11_5 => 
    bd (ldV H a11_5 1 false) fun a12_6 => 
    (true || G.pur 37) = true ∧ Cl G 37 [a10_4, a12_6] H fun a13_7 ha13_7 => 
    bd (unV .not a13_7) fun a14_8 => 
    wpg (gdV a14_8 false) ha13_7 (fun k => bd (fadrV 1 a2_0) fun a16_10i => k a16_10i ha13_7) fun a16_10 ha16_10 => 
    wpg (gdV a14_8 false) ha16_10 (fun k => bd (ldV ha16_10 a16_10 1 false) fun a17_11i => k a17_11i ha16_10) fun a17_11 ha17_11 => 
    wpg (gdV a14_8 false) ha17_11 (fun k => bd (lensV a17_11) fun a18_12i => k a18_12i ha17_11) fun a18_12 ha18_12 => 
    wpg (gdV a14_8 false) ha18_12 (fun k => bd (fadrV 1 a3_1) fun a19_13i => k a19_13i ha18_12) fun a19_13 ha19_13 => 
    wpg (gdV a14_8 false) ha19_13 (fun k => bd (ldV ha19_13 a19_13 1 false) fun a20_14i => k a20_14i ha19_13) fun a20_14 ha20_14 => 
    wpg (gdV a14_8 false) ha20_14 (fun k => bd (lensV a20_14) fun a21_15i => k a21_15i ha20_14) fun a21_15 ha21_15 => 
    wpg (gdV a14_8 false) ha21_15 (fun k => bd (binV .neq a18_12 a21_15) fun a22_16i => k a22_16i ha21_15) fun a22_16 ha22_16 => 
    bd (pickV a14_8 (.bool true) a22_16) fun a23_17 => 
    ifB a23_17
      (k (.bool false) ha22_16)
      (Lp G b13_0 (x0 :: x1 :: a2_0 :: a3_1 :: (.bool false) :: (.int .i64 0) :: undefV :: undefV :: undefV :: a9_3 :: a10_4 :: a11_5 :: a12_6 :: a13_7 :: a14_8 :: a14_8 :: a16_10 :: a17_11 :: a18_12 :: a19_13 :: a20_14 :: a21_15 :: a22_16 :: a23_17 :: undefV :: undefV :: undefV :: undefV :: undefV :: undefV :: undefV :: undefV :: undefV :: undefV :: undefV :: undefV :: undefV :: undefV :: undefV :: undefV :: undefV :: undefV :: undefV :: undefV :: undefV :: undefV :: undefV :: undefV :: undefV :: undefV :: undefV :: undefV :: undefV :: undefV :: undefV :: undefV :: undefV :: undefV :: undefV :: undefV :: undefV :: undefV :: undefV :: undefV :: undefV :: undefV :: undefV :: undefV :: undefV :: undefV :: undefV :: undefV :: undefV :: []) ha22_16 (blockQ 0 (seqQ G r13_3 (retQ i13 k))))) := by kernel_rfl
@[simp] theorem ret13 {x0 x1 x2 x3 x4 x5 x6 x7 x8 x9 x10 x11 x12 x13 x14 x15 x16 x17 x18 x19 x20 x21 x22 x23 x24 x25 x26 x27 x28 x29 x30 x31 x32 x33 x34 x35 x36 x37 x38 x39 x40 x41 x42 x43 x44 x45 x46 x47 x48 x49 x50 x51 x52 x53 x54 x55 x56 x57 x58 x59 x60 x61 x62 x63 x64 x65 x66 x67 x68 x69 x70 x71 x72 : V} {H : Heap} {k : V → Heap → Prop} : retQ i13 k .r (x0 :: x1 :: x2 :: x3 :: x4 :: x5 :: x6 :: x7 :: x8 :: x9 :: x10 :: x11 :: x12 :: x13 :: x14 :: x15 :: x16 :: x17 :: x18 :: x19 :: x20 :: x21 :: x22 :: x23 :: x24 :: x25 :: x26 :: x27 :: x28 :: x29 :: x30 :: x31 :: x32 :: x33 :: x34 :: x35 :: x36 :: x37 :: x38 :: x39 :: x40 :: x41 :: x42 :: x43 :: x44 :: x45 :: x46 :: x47 :: x48 :: x49 :: x50 :: x51 :: x52 :: x53 :: x54 :: x55 :: x56 :: x57 :: x58 :: x59 :: x60 :: x61 :: x62 :: x63 :: x64 :: x65 :: x66 :: x67 :: x68 :: x69 :: x70 :: x71 :: x72 :: []) H = k x4 H := nrfl
@[simp] theorem ret13n {x0 x1 x2 x3 x4 x5 x6 x7 x8 x9 x10 x11 x12 x13 x14 x15 x16 x17 x18 x19 x20 x21 x22 x23 x24 x25 x26 x27 x28 x29 x30 x31 x32 x33 x34 x35 x36 x37 x38 x39 x40 x41 x42 x43 x44 x45 x46 x47 x48 x49 x50 x51 x52 x53 x54 x55 x56 x57 x58 x59 x60 x61 x62 x63 x64 x65 x66 x67 x68 x69 x70 x71 x72 : V} {H : Heap} {k : V → Heap → Prop} : retQ i13 k .n (x0 :: x1 :: x2 :: x3 :: x4 :: x5 :: x6 :: x7 :: x8 :: x9 :: x10 :: x11 :: x12 :: x13 :: x14 :: x15 :: x16 :: x17 :: x18 :: x19 :: x20 :: x21 :: x22 :: x23 :: x24 :: x25 :: x26 :: x27 :: x28 :: x29 :: x30 :: x31 :: x32 :: x33 :: x34 :: x35 :: x36 :: x37 :: x38 :: x39 :: x40 :: x41 :: x42 :: x43 :: x44 :: x45 :: x46 :: x47 :: x48 :: x49 :: x50 :: x51 :: x52 :: x53 :: x54 :: x55 :: x56 :: x57 :: x58 :: x59 :: x60 :: x61 :: x62 :: x63 :: x64 :: x65 :: x66 :: x67 :: x68 :: x69 :: x70 :: x71 :: x72 :: []) H = k x4 H := nrfl
theorem wb13_0 {x0 x1 x2 x3 x4 x5 x6 x7 x8 x9 x10 x11 x12 x13 x14 x15 x16 x17 x18 x19 x20 x21 x22 x23 x24 x25 x26 x27 x28 x29 x30 x31 x32 x33 x34 x35 x36 x37 x38 x39 x40 x41 x42 x43 x44 x45 x46 x47 x48 x49 x50 x51 x52 x53 x54 x55 x56 x57 x58 x59 x60 x61 x62 x63 x64 x65 x66 x67 x68 x69 x70 x71 x72 : V} {H : Heap} {Q : Cont} : wp G b13_0 (x0 :: x1 :: x2 :: x3 :: x4 :: x5 :: x6 :: x7 :: x8 :: x9 :: x10 :: x11 :: x12 :: x13 :: x14 :: x15 :: x16 :: x17 :: x18 :: x19 :: x20 :: x21 :: x22 :: x23 :: x24 :: x25 :: x26 :: x27 :: x28 :: x29 :: x30 :: x31 :: x32 :: x33 :: x34 :: x35 :: x36 :: x37 :: x38 :: x39 :: x40 :: x41 :: x42 :: x43 :: x44 :: x45 :: x46 :: x47 :: x48 :: x49 :: x50 :: x51 :: x52 :: x53 :: x54 :: x55 :: x56 :: x57 :: x58 :: x59 :: x60 :: x61 :: x62 :: x63 :: x64 :: x65 :: x66 :: x67 :: x68 :: x69 :: x70 :: x71 :: x72 :: []) H Q = (
    bd (fadrV 1 x2) fun a25_1 => 
    bd (ldV H a25_1 1 false) fun a26_2 => 
    bd (lensV a26_2) fun a27_3 => 
    bd (binV .lss x5 a27_3) fun a28_4 => 
    ifB a28_4
      (bd (fadrV 1 x2) fun a31_5 => 
      bd (ldV H a31_5 1 false) fun a32_6 => 
      bd (iadrV 2 a32_6 x5) fun a34_8 => 
      bd (ldV H a34_8 2 true) fun a35_9 => 
      bd (fadrV 1 x3) fun a36_10 => 
      bd (ldrV a36_10 1 false) fun a37_11 => 
      bd (iadrV 2 a37_11 x5) fun a39_13 => 
      bd (ldrV a39_13 2 true) fun a40_14 => 
      newB H (.cells [(.str []), .nils]) fun a6_15 ha6_15 => 
      newB ha6_15 (.cells [(.str []), .nils]) fun a7_16 ha7_16 => 
      true = true ∧ bd (stV ha7_16 2 a6_15 a35_9) fun hu17 => 
      true = true ∧ bd (stV hu17 2 a7_16 a40_14) fun hu18 => 
      bd (fadrV 0 a6_15) fun a41_19 => 
      bd (ldV hu18 a41_19 1 false) fun a42_20 => 
      bd (fadrV 0 a7_16) fun a43_21 => 
      bd (ldV hu18 a43_21 1 false) fun a44_22 => 
      bd (binV .neq a42_20 a44_22) fun a45_23 => 
      wpg (gdV a45_23 false) hu18 (fun k => bd (fadrV 1 a6_15) fun a47_25i => k a47_25i hu18) fun a47_25 ha47_25 => 
      wpg (gdV a45_23 false) ha47_25 (fun k => bd (ldV ha47_25 a47_25 1 false) fun a48_26i => k a48_26i ha47_25) fun a48_26 ha48_26 => 
      wpg (gdV a45_23 false) ha48_26 (fun k => bd (lensV a48_26) fun a49_27i => k a49_27i ha48_26) fun a49_27 ha49_27 => 
      wpg (gdV a45_23 false) ha49_27 (fun k => bd (fadrV 1 a7_16) fun a50_28i => k a50_28i ha49_27) fun a50_28 ha50_28 => 
      wpg (gdV a45_23 false) ha50_28 (fun k => bd (ldV ha50_28 a50_28 1 false) fun a51_29i => k a51_29i ha50_28) fun a51_29 ha51_29 => 
      wpg (gdV a45_23 false) ha51_29 (fun k => bd (lensV a51_29) fun a52_30i => k a52_30i ha51_29) fun a52_30 ha52_30 => 
      wpg (gdV a45_23 false) ha52_30 (fun k => bd (binV .neq a49_27 a52_30) fun a53_31i => k a53_31i ha52_30) fun a53_31 ha53_31 => 
      bd (pickV a45_23 (.bool true) a53_31) fun a54_32 => 
      ifB a54_32
        (Q .r (x0 :: x1 :: x2 :: x3 :: (.bool false) :: x5 :: a6_15 :: a7_16 :: x8 :: x9 :: x10 :: x11 :: x12 :: x13 :: x14 :: x15 :: x16 :: x17 :: x18 :: x19 :: x20 :: x21 :: x22 :: x23 :: x5 :: a25_1 :: a26_2 :: a27_3 :: a28_4 :: x29 :: x30 :: a31_5 :: a32_6 :: x5 :: a34_8 :: a35_9 :: a36_10 :: a37_11 :: x5 :: a39_13 :: a40_14 :: a41_19 :: a42_20 :: a43_21 :: a44_22 :: a45_23 :: a45_23 :: a47_25 :: a48_26 :: a49_27 :: a50_28 :: a51_29 :: a52_30 :: a53_31 :: a54_32 :: x55 :: x56 :: x57 :: x58 :: x59 :: x60 :: x61 :: x62 :: x63 :: x64 :: x65 :: x66 :: x67 :: x68 :: x69 :: x70 :: x71 :: x72 :: []) ha53_31)
        (Lp G b13_1 (x0 :: x1 :: x2 :: x3 :: x4 :: x5 :: a6_15 :: a7_16 :: (.int .i64 0) :: x9 :: x10 :: x11 :: x12 :: x13 :: x14 :: x15 :: x16 :: x17 :: x18 :: x19 :: x20 :: x21 :: x22 :: x23 :: x5 :: a25_1 :: a26_2 :: a27_3 :: a28_4 :: x29 :: x30 :: a31_5 :: a32_6 :: x5 :: a34_8 :: a35_9 :: a36_10 :: a37_11 :: x5 :: a39_13 :: a40_14 :: a41_19 :: a42_20 :: a43_21 :: a44_22 :: a45_23 :: a45_23 :: a47_25 :: a48_26 :: a49_27 :: a50_28 :: a51_29 :: a52_30 :: a53_31 :: a54_32 :: x55 :: x56 :: x57 :: x58 :: x59 :: x60 :: x61 :: x62 :: x63 :: x64 :: x65 :: x66 :: x67 :: x68 :: x69 :: x70 :: x71 :: x72 :: []) ha53_31 (blockQ 2 (blockQ 1 (seqQ G r13_2 Q)))))
      (Q (.e 0) (x0 :: x1 :: x2 :: x3 :: x4 :: x5 :: x6 :: x7 :: x8 :: x9 :: x10 :: x11 :: x12 :: x13 :: x14 :: x15 :: x16 :: x17 :: x18 :: x19 :: x20 :: x21 :: x22 :: x23 :: x5 :: a25_1 :: a26_2 :: a27_3 :: a28_4 :: x29 :: x30 :: x31 :: x32 :: x33 :: x34 :: x35 :: x36 :: x37 :: x38 :: x39 :: x40 :: x41 :: x42 :: x43 :: x44 :: x45 :: x46 :: x47 :: x48 :: x49 :: x50 :: x51 :: x52 :: x53 :: x54 :: x55 :: x56 :: x57 :: x58 :: x59 :: x60 :: x61 :: x62 :: x63 :: x64 :: x65 :: x66 :: x67 :: x68 :: x69 :: x70 :: x71 :: x72 :: []) H)) := by kernel_rfl
def Sb13_0 (I : Nat → V → V → V → Heap → Prop) : Nat → List V → Heap → Prop := fun i ts H => ts.length = 73 ∧ I i (ts.getD 2 undefV) (ts.getD 3 undefV) (ts.getD 5 undefV) H
@[simp] theorem Sb13_0_eq {I : Nat → V → V → V → Heap → Prop} {i : Nat} {x0 x1 x2 x3 x4 x5 x6 x7 x8 x9 x10 x11 x12 x13 x14 x15 x16 x17 x18 x19 x20 x21 x22 x23 x24 x25 x26 x27 x28 x29 x30 x31 x32 x33 x34 x35 x36 x37 x38 x39 x40 x41 x42 x43 x44 x45 x46 x47 x48 x49 x50 x51 x52 x53 x54 x55 x56 x57 x58 x59 x60 x61 x62 x63 x64 x65 x66 x67 x68 x69 x70 x71 x72 : V} {H : Heap} : Sb13_0 I i (x0 :: x1 :: x2 :: x3 :: x4 :: x5 :: x6 :: x7 :: x8 :: x9 :: x10 :: x11 :: x12 :: x13 :: x14 :: x15 :: x16 :: x17 :: x18 :: x19 :: x20 :: x21 :: x22 :: x23 :: x24 :: x25 :: x26 :: x27 :: x28 :: x29 :: x30 :: x31 :: x32 :: x33 :: x34 :: x35 :: x36 :: x37 :: x38 :: x39 :: x40 :: x41 :: x42 :: x43 :: x44 :: x45 :: x46 :: x47 :: x48 :: x49 :: x50 :: x51 :: x52 :: x53 :: x54 :: x55 :: x56 :: x57 :: x58 :: x59 :: x60 :: x61 :: x62 :: x63 :: x64 :: x65 :: x66 :: x67 :: x68 :: x69 :: x70 :: x71 :: x72 :: []) H = I i x2 x3 x5 H := propext ⟨fun h => h.2, fun h => ⟨rfl, h⟩⟩
theorem ub13_0 {Q : Cont} (M : Nat) (I : Nat → V → V → V → Heap → Prop) (step : ∀ i, i ≤ M → ∀ (x2 x3 x5 : V) (H : Heap), I i x2 x3 x5 H → ∀ (x0 x1 x4 x6 x7 x8 x9 x10 x11 x12 x13 x14 x15 x16 x17 x18 x19 x20 x21 x22 x23 x24 x25 x26 x27 x28 x29 x30 x31 x32 x33 x34 x35 x36 x37 x38 x39 x40 x41 x42 x43 x44 x45 x46 x47 x48 x49 x50 x51 x52 x53 x54 x55 x56 x57 x58 x59 x60 x61 x62 x63 x64 x65 x66 x67 x68 x69 x70 x71 x72 : V), wp G b13_0 (x0 :: x1 :: x2 :: x3 :: x4 :: x5 :: x6 :: x7 :: x8 :: x9 :: x10 :: x11 :: x12 :: x13 :: x14 :: x15 :: x16 :: x17 :: x18 :: x19 :: x20 :: x21 :: x22 :: x23 :: x24 :: x25 :: x26 :: x27 :: x28 :: x29 :: x30 :: x31 :: x32 :: x33 :: x34 :: x35 :: x36 :: x37 :: x38 :: x39 :: x40 :: x41 :: x42 :: x43 :: x44 :: x45 :: x46 :: x47 :: x48 :: x49 :: x50 :: x51 :: x52 :: x53 :: x54 :: x55 :: x56 :: x57 :: x58 :: x59 :: x60 :: x61 :: x62 :: x63 :: x64 :: x65 :: x66 :: x67 :: x68 :: x69 :: x70 :: x71 :: x72 :: []) H (upQ M (Sb13_0 I) i Q)) (i : Nat) (hi : i ≤ M) {x0 x1 x2 x3 x4 x5 x6 x7 x8 x9 x10 x11 x12 x13 x14 x15 x16 x17 x18 x19 x20 x21 x22 x23 x24 x25 x26 x27 x28 x29 x30 x31 x32 x33 x34 x35 x36 x37 x38 x39 x40 x41 x42 x43 x44 x45 x46 x47 x48 x49 x50 x51 x52 x53 x54 x55 x56 x57 x58 x59 x60 x61 x62 x63 x64 x65 x66 x67 x68 x69 x70 x71 x72 : V} {H : Heap} (h : I i x2 x3 x5 H) : Lp G b13_0 (x0 :: x1 :: x2 :: x3 :: x4 :: x5 :: x6 :: x7 :: x8 :: x9 :: x10 :: x11 :: x12 :: x13 :: x14 :: x15 :: x16 :: x17 :: x18 :: x19 :: x20 :: x21 :: x22 :: x23 :: x24 :: x25 :: x26 :: x27 :: x28 :: x29 :: x30 :: x31 :: x32 :: x33 :: x34 :: x35 :: x36 :: x37 :: x38 :: x39 :: x40 :: x41 :: x42 :: x43 :: x44 :: x45 :: x46 :: x47 :: x48 :: x49 :: x50 :: x51 :: x52 :: x53 :: x54 :: x55 :: x56 :: x57 :: x58 :: x59 :: x60 :: x61 :: x62 :: x63 :: x64 :: x65 :: x66 :: x67 :: x68 :: x69 :: x70 :: x71 :: x72 :: []) H Q :=
  Lp.up (S := Sb13_0 I) (fun i ts H hi hS => (congrArg (fun t => wp G b13_0 t H (upQ M (Sb13_0 I) i Q)) (tabF_eq hS.1)).mpr (step i hi (ts.getD 2 undefV) (ts.getD 3 undefV) (ts.getD 5 undefV) H hS.2 (ts.getD 0 undefV) (ts.getD 1 undefV) (ts.getD 4 undefV) (ts.getD 6 undefV) (ts.getD 7 undefV) (ts.getD 8 undefV) (ts.getD 9 undefV) (ts.getD 10 undefV) (ts.getD 11 undefV) (ts.getD 12 undefV) (ts.getD 13 undefV) (ts.getD 14 undefV) (ts.getD 15 undefV) (ts.getD 16 undefV) (ts.getD 17 undefV) (ts.getD 18 undefV) (ts.getD 19 undefV) (ts.getD 20 undefV) (ts.getD 21 undefV) (ts.getD 22 undefV) (ts.getD 23 undefV) (ts.getD 24 undefV) (ts.getD 25 undefV) (ts.getD 26 undefV) (ts.getD 27 undefV) (ts.getD 28 undefV) (ts.getD 29 undefV) (ts.getD 30 undefV) (ts.getD 31 undefV) (ts.getD 32 undefV) (ts.getD 33 undefV) (ts.getD 34 undefV) (ts.getD 35 undefV) (ts.getD 36 undefV) (ts.getD 37 undefV) (ts.getD 38 undefV) (ts.getD 39 undefV) (ts.getD 40 undefV) (ts.getD 41 undefV) (ts.getD 42 undefV) (ts.getD 43 undefV) (ts.getD 44 undefV) (ts.getD 45 undefV) (ts.getD 46 undefV) (ts.getD 47 undefV) (ts.getD 48 undefV) (ts.getD 49 undefV) (ts.getD 50 undefV) (ts.getD 51 undefV) (ts.getD 52 undefV) (ts.getD 53 undefV) (ts.getD 54 undefV) (ts.getD 55 undefV) (ts.getD 56 undefV) (ts.getD 57 undefV) (ts.getD 58 undefV) (ts.getD 59 undefV) (ts.getD 60 undefV) (ts.getD 61 undefV) (ts.getD 62 undefV) (ts.getD 63 undefV) (ts.getD 64 undefV) (ts.getD 65 undefV) (ts.getD 66 undefV) (ts.getD 67 undefV) (ts.getD 68 undefV) (ts.getD 69 undefV) (ts.getD 70 undefV) (ts.getD 71 undefV) (ts.getD 72 undefV))) _ i _ H rfl hi ⟨rfl, h⟩
theorem wb13_1 {x0 x1 x2 x3 x4 x5 x6 x7 x8 x9 x10 x11 x12 x13 x14 x15 x16 x17 x18 x19 x20 x21 x22 x23 x24 x25 x26 x27 x28 x29 x30 x31 x32 x33 x34 x35 x36 x37 x38 x39 x40 x41 x42 x43 x44 x45 x46 x47 x48 x49 x50 x51 x52 x53 x54 x55 x56 x57 x58 x59 x60 x61 x62 x63 x64 x65 x66 x67 x68 x69 x70 x71 x72 : V} {H : Heap} {Q : Cont} : wp G b13_1 (x0 :: x1 :: x2 :: x3 :: x4 :: x5 :: x6 :: x7 :: x8 :: x9 :: x10 :: x11 :: x12 :: x13 :: x14 :: x15 :: x16 :: x17 :: x18 :: x19 :: x20 :: x21 :: x22 :: x23 :: x24 :: x25 :: x26 :: x27 :: x28 :: x29 :: x30 :: x31 :: x32 :: x33 :: x34 :: x35 :: x36 :: x37 :: x38 :: x39 :: x40 :: x41 :: x42 :: x43 :: x44 :: x45 :: x46 :: x47 :: x48 :: x49 :: x50 :: x51 :: x52 :: x53 :: x54 :: x55 :: x56 :: x57 :: x58 :: x59 :: x60 :: x61 :: x62 :: x63 :: x64 :: x65 :: x66 :: x67 :: x68 :: x69 :: x70 :: x71 :: x72 :: []) H Q = (
    bd (fadrV 1 x6) fun a56_1 => 
    bd (ldV H a56_1 1 false) fun a57_2 => 
    bd (lensV a57_2) fun a58_3 => 
    bd (binV .lss x8 a58_3) fun a59_4 => 
    ifB a59_4
      (bd (fadrV 1 x6) fun a62_5 => 
      bd (ldV H a62_5 1 false) fun a63_6 => 
      bd (iadrV 1 a63_6 x8) fun a65_8 => 
      bd (ldV H a65_8 1 false) fun a66_9 => 
      bd (fadrV 1 x7) fun a67_10 => 
      bd (ldV H a67_10 1 false) fun a68_11 => 
      bd (iadrV 1 a68_11 x8) fun a70_13 => 
      bd (ldV H a70_13 1 false) fun a71_14 => 
      bd (binV .neq a66_9 a71_14) fun a72_15 => 
      ifB a72_15
        (Q .r (x0 :: x1 :: x2 :: x3 :: (.bool false) :: x5 :: x6 :: x7 :: x8 :: x9 :: x10 :: x11 :: x12 :: x13 :: x14 :: x15 :: x16 :: x17 :: x18 :: x19 :: x20 :: x21 :: x22 :: x23 :: x24 :: x25 :: x26 :: x27 :: x28 :: x29 :: x30 :: x31 :: x32 :: x33 :: x34 :: x35 :: x36 :: x37 :: x38 :: x39 :: x40 :: x41 :: x42 :: x43 :: x44 :: x45 :: x46 :: x47 :: x48 :: x49 :: x50 :: x51 :: x52 :: x53 :: x54 :: x8 :: a56_1 :: a57_2 :: a58_3 :: a59_4 :: x60 :: x61 :: a62_5 :: a63_6 :: x8 :: a65_8 :: a66_9 :: a67_10 :: a68_11 :: x8 :: a70_13 :: a71_14 :: a72_15 :: []) H)
        (bd (binV .add x8 (.int .i64 1)) fun a61_18 => 
        Q .n (x0 :: x1 :: x2 :: x3 :: x4 :: x5 :: x6 :: x7 :: a61_18 :: x9 :: x10 :: x11 :: x12 :: x13 :: x14 :: x15 :: x16 :: x17 :: x18 :: x19 :: x20 :: x21 :: x22 :: x23 :: x24 :: x25 :: x26 :: x27 :: x28 :: x29 :: x30 :: x31 :: x32 :: x33 :: x34 :: x35 :: x36 :: x37 :: x38 :: x39 :: x40 :: x41 :: x42 :: x43 :: x44 :: x45 :: x46 :: x47 :: x48 :: x49 :: x50 :: x51 :: x52 :: x53 :: x54 :: x8 :: a56_1 :: a57_2 :: a58_3 :: a59_4 :: x8 :: a61_18 :: a62_5 :: a63_6 :: x8 :: a65_8 :: a66_9 :: a67_10 :: a68_11 :: x8 :: a70_13 :: a71_14 :: a72_15 :: []) H))
      (Q (.e 2) (x0 :: x1 :: x2 :: x3 :: x4 :: x5 :: x6 :: x7 :: x8 :: x9 :: x10 :: x11 :: x12 :: x13 :: x14 :: x15 :: x16 :: x17 :: x18 :: x19 :: x20 :: x21 :: x22 :: x23 :: x24 :: x25 :: x26 :: x27 :: x28 :: x29 :: x30 :: x31 :: x32 :: x33 :: x34 :: x35 :: x36 :: x37 :: x38 :: x39 :: x40 :: x41 :: x42 :: x43 :: x44 :: x45 :: x46 :: x47 :: x48 :: x49 :: x50 :: x51 :: x52 :: x53 :: x54 :: x8 :: a56_1 :: a57_2 :: a58_3 :: a59_4 :: x60 :: x61 :: x62 :: x63 :: x64 :: x65 :: x66 :: x67 :: x68 :: x69 :: x70 :: x71 :: x72 :: []) H)) := by kernel_rfl
def Sb13_1 (I : Nat → V → V → V → V → V → V → Heap → Prop) : Nat → List V → Heap → Prop := fun i ts H => ts.length = 73 ∧ I i (ts.getD 2 undefV) (ts.getD 3 undefV) (ts.getD 5 undefV) (ts.getD 6 undefV) (ts.getD 7 undefV) (ts.getD 8 undefV) H
@[simp] theorem Sb13_1_eq {I : Nat → V → V → V → V → V → V → Heap → Prop} {i : Nat} {x0 x1 x2 x3 x4 x5 x6 x7 x8 x9 x10 x11 x12 x13 x14 x15 x16 x17 x18 x19 x20 x21 x22 x23 x24 x25 x26 x27 x28 x29 x30 x31 x32 x33 x34 x35 x36 x37 x38 x39 x40 x41 x42 x43 x44 x45 x46 x47 x48 x49 x50 x51 x52 x53 x54 x55 x56 x57 x58 x59 x60 x61 x62 x63 x64 x65 x66 x67 x68 x69 x70 x71 x72 : V} {H : Heap} : Sb13_1 I i (x0 :: x1 :: x2 :: x3 :: x4 :: x5 :: x6 :: x7 :: x8 :: x9 :: x10 :: x11 :: x12 :: x13 :: x14 :: x15 :: x16 :: x17 :: x18 :: x19 :: x20 :: x21 :: x22 :: x23 :: x24 :: x25 :: x26 :: x27 :: x28 :: x29 :: x30 :: x31 :: x32 :: x33 :: x34 :: x35 :: x36 :: x37 :: x38 :: x39 :: x40 :: x41 :: x42 :: x43 :: x44 :: x45 :: x46 :: x47 :: x48 :: x49 :: x50 :: x51 :: x52 :: x53 :: x54 :: x55 :: x56 :: x57 :: x58 :: x59 :: x60 :: x61 :: x62 :: x63 :: x64 :: x65 :: x66 :: x67 :: x68 :: x69 :: x70 :: x71 :: x72 :: []) H = I i x2 x3 x5 x6 x7 x8 H := propext ⟨fun h => h.2, fun h => ⟨rfl, h⟩⟩
theorem ub13_1 {Q : Cont} (M : Nat) (I : Nat → V → V → V → V → V → V → Heap → Prop) (step : ∀ i, i ≤ M → ∀ (x2 x3 x5 x6 x7 x8 : V) (H : Heap), I i x2 x3 x5 x6 x7 x8 H → ∀ (x0 x1 x4 x9 x10 x11 x12 x13 x14 x15 x16 x17 x18 x19 x20 x21 x22 x23 x24 x25 x26 x27 x28 x29 x30 x31 x32 x33 x34 x35 x36 x37 x38 x39 x40 x41 x42 x43 x44 x45 x46 x47 x48 x49 x50 x51 x52 x53 x54 x55 x56 x57 x58 x59 x60 x61 x62 x63 x64 x65 x66 x67 x68 x69 x70 x71 x72 : V), wp G b13_1 (x0 :: x1 :: x2 :: x3 :: x4 :: x5 :: x6 :: x7 :: x8 :: x9 :: x10 :: x11 :: x12 :: x13 :: x14 :: x15 :: x16 :: x17 :: x18 :: x19 :: x20 :: x21 :: x22 :: x23 :: x24 :: x25 :: x26 :: x27 :: x28 :: x29 :: x30 :: x31 :: x32 :: x33 :: x34 :: x35 :: x36 :: x37 :: x38 :: x39 :: x40 :: x41 :: x42 :: x43 :: x44 :: x45 :: x46 :: x47 :: x48 :: x49 :: x50 :: x51 :: x52 :: x53 :: x54 :: x55 :: x56 :: x57 :: x58 :: x59 :: x60 :: x61 :: x62 :: x63 :: x64 :: x65 :: x66 :: x67 :: x68 :: x69 :: x70 :: x71 :: x72 :: []) H (upQ M (Sb13_1 I) i Q)) (i : Nat) (hi : i ≤ M) {x0 x1 x2 x3 x4 x5 x6 x7 x8 x9 x10 x11 x12 x13 x14 x15 x16 x17 x18 x19 x20 x21 x22 x23 x24 x25 x26 x27 x28 x29 x30 x31 x32 x33 x34 x35 x36 x37 x38 x39 x40 x41 x42 x43 x44 x45 x46 x47 x48 x49 x50 x51 x52 x53 x54 x55 x56 x57 x58 x59 x60 x61 x62 x63 x64 x65 x66 x67 x68 x69 x70 x71 x72 : V} {H : Heap} (h : I i x2 x3 x5 x6 x7 x8 H) : Lp G b13_1 (x0 :: x1 :: x2 :: x3 :: x4 :: x5 :: x6 :: x7 :: x8 :: x9 :: x10 :: x11 :: x12 :: x13 :: x14 :: x15 :: x16 :: x17 :: x18 :: x19 :: x20 :: x21 :: x22 :: x23 :: x24 :: x25 :: x26 :: x27 :: x28 :: x29 :: x30 :: x31 :: x32 :: x33 :: x34 :: x35 :: x36 :: x37 :: x38 :: x39 :: x40 :: x41 :: x42 :: x43 :: x44 :: x45 :: x46 :: x47 :: x48 :: x49 :: x50 :: x51 :: x52 :: x53 :: x54 :: x55 :: x56 :: x57 :: x58 :: x59 :: x60 :: x61 :: x62 :: x63 :: x64 :: x65 :: x66 :: x67 :: x68 :: x69 :: x70 :: x71 :: x72 :: []) H Q :=
  Lp.up (S := Sb13_1 I) (fun i ts H hi hS => (congrArg (fun t => wp G b13_1 t H (upQ M (Sb13_1 I) i Q)) (tabF_eq hS.1)).mpr (step i hi (ts.getD 2 undefV) (ts.getD 3 undefV) (ts.getD 5 undefV) (ts.getD 6 undefV) (ts.getD 7 undefV) (ts.getD 8 undefV) H hS.2 (ts.getD 0 undefV) (ts.getD 1 undefV) (ts.getD 4 undefV) (ts.getD 9 undefV) (ts.getD 10 undefV) (ts.getD 11 undefV) (ts.getD 12 undefV) (ts.getD 13 undefV) (ts.getD 14 undefV) (ts.getD 15 undefV) (ts.getD 16 undefV) (ts.getD 17 undefV) (ts.getD 18 undefV) (ts.getD 19 undefV) (ts.getD 20 undefV) (ts.getD 21 undefV) (ts.getD 22 undefV) (ts.getD 23 undefV) (ts.getD 24 undefV) (ts.getD 25 undefV) (ts.getD 26 undefV) (ts.getD 27 undefV) (ts.getD 28 undefV) (ts.getD 29 undefV) (ts.getD 30 undefV) (ts.getD 31 undefV) (ts.getD 32 undefV) (ts.getD 33 undefV) (ts.getD 34 undefV) (ts.getD 35 undefV) (ts.getD 36 undefV) (ts.getD 37 undefV) (ts.getD 38 undefV) (ts.getD 39 undefV) (ts.getD 40 undefV) (ts.getD 41 undefV) (ts.getD 42 undefV) (ts.getD 43 undefV) (ts.getD 44 undefV) (ts.getD 45 undefV) (ts.getD 46 undefV) (ts.getD 47 undefV) (ts.getD 48 undefV) (ts.getD 49 undefV) (ts.getD 50 undefV) (ts.getD 51 undefV) (ts.getD 52 undefV) (ts.getD 53 undefV) (ts.getD 54 undefV) (ts.getD 55 undefV) (ts.getD 56 undefV) (ts.getD 57 undefV) (ts.getD 58 undefV) (ts.getD 59 undefV) (ts.getD 60 undefV) (ts.getD 61 undefV) (ts.getD 62 undefV) (ts.getD 63 undefV) (ts.getD 64 undefV) (ts.getD 65 undefV) (ts.getD 66 undefV) (ts.getD 67 undefV) (ts.getD 68 undefV) (ts.getD 69 undefV) (ts.getD 70 undefV) (ts.getD 71 undefV) (ts.getD 72 undefV))) _ i _ H rfl hi ⟨rfl, h⟩
theorem wr13_2 {x0 x1 x2 x3 x4 x5 x6 x7 x8 x9 x10 x11 x12 x13 x14 x15 x16 x17 x18 x19 x20 x21 x22 x23 x24 x25 x26 x27 x28 x29 x30 x31 x32 x33 x34 x35 x36 x37 x38 x39 x40 x41 x42 x43 x44 x45 x46 x47 x48 x49 x50 x51 x52 x53 x54 x55 x56 x57 x58 x59 x60 x61 x62 x63 x64 x65 x66 x67 x68 x69 x70 x71 x72 : V} {H : Heap} {Q : Cont} : wp G r13_2 (x0 :: x1 :: x2 :: x3 :: x4 :: x5 :: x6 :: x7 :: x8 :: x9 :: x10 :: x11 :: x12 :: x13 :: x14 :: x15 :: x16 :: x17 :: x18 :: x19 :: x20 :: x21 :: x22 :: x23 :: x24 :: x25 :: x26 :: x27 :: x28 :: x29 :: x30 :: x31 :: x32 :: x33 :: x34 :: x35 :: x36 :: x37 :: x38 :: x39 :: x40 :: x41 :: x42 :: x43 :: x44 :: x45 :: x46 :: x47 :: x48 :: x49 :: x50 :: x51 :: x52 :: x53 :: x54 :: x55 :: x56 :: x57 :: x58 :: x59 :: x60 :: x61 :: x62 :: x63 :: x64 :: x65 :: x66 :: x67 :: x68 :: x69 :: x70 :: x71 :: x72 :: []) H Q = (
    bd (binV .add x5 (.int .i64 1)) fun a30_1 => 
    Q .n (x0 :: x1 :: x2 :: x3 :: x4 :: a30_1 :: x6 :: x7 :: x8 :: x9 :: x10 :: x11 :: x12 :: x13 :: x14 :: x15 :: x16 :: x17 :: x18 :: x19 :: x20 :: x21 :: x22 :: x23 :: x24 :: x25 :: x26 :: x27 :: x28 :: x5 :: a30_1 :: x31 :: x32 :: x33 :: x34 :: x35 :: x36 :: x37 :: x38 :: x39 :: x40 :: x41 :: x42 :: x43 :: x44 :: x45 :: x46 :: x47 :: x48 :: x49 :: x50 :: x51 :: x52 :: x53 :: x54 :: x55 :: x56 :: x57 :: x58 :: x59 :: x60 :: x61 :: x62 :: x63 :: x64 :: x65 :: x66 :: x67 :: x68 :: x69 :: x70 :: x71 :: x72 :: []) H) := by kernel_rfl
theorem wr13_3 {x0 x1 x2 x3 x4 x5 x6 x7 x8 x9 x10 x11 x12 x13 x14 x15 x16 x17 x18 x19 x20 x21 x22 x23 x24 x25 x26 x27 x28 x29 x30 x31 x32 x33 x34 x35 x36 x37 x38 x39 x40 x41 x42 x43 x44 x45 x46 x47 x48 x49 x50 x51 x52 x53 x54 x55 x56 x57 x58 x59 x60 x61 x62 x63 x64 x65 x66 x67 x68 x69 x70 x71 x72 : V} {H : Heap} {Q : Cont} : wp G r13_3 (x0 :: x1 :: x2 :: x3 :: x4 :: x5 :: x6 :: x7 :: x8 :: x9 :: x10 :: x11 :: x12 :: x13 :: x14 :: x15 :: x16 :: x17 :: x18 :: x19 :: x20 :: x21 :: x22 :: x23 :: x24 :: x25 :: x26 :: x27 :: x28 :: x29 :: x30 :: x31 :: x32 :: x33 :: x34 :: x35 :: x36 :: x37 :: x38 :: x39 :: x40 :: x41 :: x42 :: x43 :: x44 :: x45 :: x46 :: x47 :: x48 :: x49 :: x50 :: x51 :: x52 :: x53 :: x54 :: x55 :: x56 :: x57 :: x58 :: x59 :: x60 :: x61 :: x62 :: x63 :: x64 :: x65 :: x66 :: x67 :: x68 :: x69 :: x70 :: x71 :: x72 :: []) H Q = (
    Q .r (x0 :: x1 :: x2 :: x3 :: (.bool true) :: x5 :: x6 :: x7 :: x8 :: x9 :: x10 :: x11 :: x12 :: x13 :: x14 :: x15 :: x16 :: x17 :: x18 :: x19 :: x20 :: x21 :: x22 :: x23 :: x24 :: x25 :: x26 :: x27 :: x28 :: x29 :: x30 :: x31 :: x32 :: x33 :: x34 :: x35 :: x36 :: x37 :: x38 :: x39 :: x40 :: x41 :: x42 :: x43 :: x44 :: x45 :: x46 :: x47 :: x48 :: x49 :: x50 :: x51 :: x52 :: x53 :: x54 :: x55 :: x56 :: x57 :: x58 :: x59 :: x60 :: x61 :: x62 :: x63 :: x64 :: x65 :: x66 :: x67 :: x68 :: x69 :: x70 :: x71 :: x72 :: []) H) := by kernel_rfl
/-! 19: dowel/dowellaw49.same -/
theorem w19 {x0 x1 : V} {H : Heap} {k : V → Heap → Prop} : runW G i19 [x0, x1] H k = (
    bd (lensV x0) fun a7_2 => 
    bd (lensV x1) fun a9_4 => 
    bd (binV .neq a7_2 a9_4) fun a10_5 => 
    ifB a10_5
      (k (.bool false) H)
      (Lp G b19_0 [x0, x1, undefV, undefV, (.bool false), (.int .i64 0), x0, a7_2, x1, a9_4, a10_5, undefV, undefV, undefV, undefV, undefV, undefV, undefV, undefV, undefV, undefV, undefV, undefV, undefV, undefV, undefV] H (blockQ 0 (seqQ G r19_1 (retQ i19 k))))) := by kernel_rfl
@[simp] theorem ret19 {x0 x1 x2 x3 x4 x5 x6 x7 x8 x9 x10 x11 x12 x13 x14 x15 x16 x17 x18 x19 x20 x21 x22 x23 x24 x25 : V} {H : Heap} {k : V → Heap → Prop} : retQ i19 k .r [x0, x1, x2, x3, x4, x5, x6, x7, x8, x9, x10, x11, x12, x13, x14, x15, x16, x17, x18, x19, x20, x21, x22, x23, x24, x25] H = k x4 H := nrfl
@[simp] theorem ret19n {x0 x1 x2 x3 x4 x5 x6 x7 x8 x9 x10 x11 x12 x13 x14 x15 x16 x17 x18 x19 x20 x21 x22 x23 x24 x25 : V} {H : Heap} {k : V → Heap → Prop} : retQ i19 k .n [x0, x1, x2, x3, x4, x5, x6, x7, x8, x9, x10, x11, x12, x13, x14, x15, x16, x17, x18, x19, x20, x21, x22, x23, x24, x25] H = k x4 H := nrfl
theorem wb19_0 {x0 x1 x2 x3 x4 x5 x6 x7 x8 x9 x10 x11 x12 x13 x14 x15 x16 x17 x18 x19 x20 x21 x22 x23 x24 x25 : V} {H : Heap} {Q : Cont} : wp G b19_0 [x0, x1, x2, x3, x4, x5, x6, x7, x8, x9, x10, x11, x12, x13, x14, x15, x16, x17, x18, x19, x20, x21, x22, x23, x24, x25] H Q = (
    bd (lensV x0) fun a13_2 => 
    bd (binV .lss x5 a13_2) fun a14_3 => 
    ifB a14_3
      (bd (iadrV 1 x0 x5) fun a19_6 => 
      bd (ldV H a19_6 1 false) fun a20_7 => 
      bd (iadrV 1 x1 x5) fun a23_10 => 
      bd (ldV H a23_10 1 false) fun a24_11 => 
      bd (binV .neq a20_7 a24_11) fun a25_12 => 
      ifB a25_12
        (Q .r [x0, x1, x2, x3, (.bool false), x5, x6, x7, x8, x9, x10, x5, x0, a13_2, a14_3, x15, x16, x0, x5, a19_6, a20_7, x1, x5, a23_10, a24_11, a25_12] H)
        (bd (binV .add x5 (.int .i64 1)) fun a16_15 => 
        Q .n [x0, x1, x2, x3, x4, a16_15, x6, x7, x8, x9, x10, x5, x0, a13_2, a14_3, x5, a16_15, x0, x5, a19_6, a20_7, x1, x5, a23_10, a24_11, a25_12] H))
      (Q (.e 0) [x0, x1, x2, x3, x4, x5, x6, x7, x8, x9, x10, x5, x0, a13_2, a14_3, x15, x16, x17, x18, x19, x20, x21, x22, x23, x24, x25] H)) := by kernel_rfl
def Sb19_0 (I : Nat → V → V → V → Heap → Prop) : Nat → List V → Heap → Prop := fun i ts H => ts.length = 26 ∧ I i (ts.getD 0 undefV) (ts.getD 1 undefV) (ts.getD 5 undefV) H
@[simp] theorem Sb19_0_eq {I : Nat → V → V → V → Heap → Prop} {i : Nat} {x0 x1 x2 x3 x4 x5 x6 x7 x8 x9 x10 x11 x12 x13 x14 x15 x16 x17 x18 x19 x20 x21 x22 x23 x24 x25 : V} {H : Heap} : Sb19_0 I i [x0, x1, x2, x3, x4, x5, x6, x7, x8, x9, x10, x11, x12, x13, x14, x15, x16, x17, x18, x19, x20, x21, x22, x23, x24, x25] H = I i x0 x1 x5 H := propext ⟨fun h => h.2, fun h => ⟨rfl, h⟩⟩
theorem ub19_0 {Q : Cont} (M : Nat) (I : Nat → V → V → V → Heap → Prop) (step : ∀ i, i ≤ M → ∀ (x0 x1 x5 : V) (H : Heap), I i x0 x1 x5 H → ∀ (x2 x3 x4 x6 x7 x8 x9 x10 x11 x12 x13 x14 x15 x16 x17 x18 x19 x20 x21 x22 x23 x24 x25 : V), wp G b19_0 [x0, x1, x2, x3, x4, x5, x6, x7, x8, x9, x10, x11, x12, x13, x14, x15, x16, x17, x18, x19, x20, x21, x22, x23, x24, x25] H (upQ M (Sb19_0 I) i Q)) (i : Nat) (hi : i ≤ M) {x0 x1 x2 x3 x4 x5 x6 x7 x8 x9 x10 x11 x12 x13 x14 x15 x16 x17 x18 x19 x20 x21 x22 x23 x24 x25 : V} {H : Heap} (h : I i x0 x1 x5 H) : Lp G b19_0 [x0, x1, x2, x3, x4, x5, x6, x7, x8, x9, x10, x11, x12, x13, x14, x15, x16, x17, x18, x19, x20, x21, x22, x23, x24, x25] H Q :=
  Lp.up (S := Sb19_0 I) (fun i ts H hi hS => (congrArg (fun t => wp G b19_0 t H (upQ M (Sb19_0 I) i Q)) (tabF_eq hS.1)).mpr (step i hi (ts.getD 0 undefV) (ts.getD 1 undefV) (ts.getD 5 undefV) H hS.2 (ts.getD 2 undefV) (ts.getD 3 undefV) (ts.getD 4 undefV) (ts.getD 6 undefV) (ts.getD 7 undefV) (ts.getD 8 undefV) (ts.getD 9 undefV) (ts.getD 10 undefV) (ts.getD 11 undefV) (ts.getD 12 undefV) (ts.getD 13 undefV) (ts.getD 14 undefV) (ts.getD 15 undefV) (ts.getD 16 undefV) (ts.getD 17 undefV) (ts.getD 18 undefV) (ts.getD 19 undefV) (ts.getD 20 undefV) (ts.getD 21 undefV) (ts.getD 22 undefV) (ts.getD 23 undefV) (ts.getD 24 undefV) (ts.getD 25 undefV))) _ i _ H rfl hi ⟨rfl, h⟩
theorem wr19_1 {x0 x1 x2 x3 x4 x5 x6 x7 x8 x9 x10 x11 x12 x13 x14 x15 x16 x17 x18 x19 x20 x21 x22 x23 x24 x25 : V} {H : Heap} {Q : Cont} : wp G r19_1 [x0, x1, x2, x3, x4, x5, x6, x7, x8, x9, x10, x11, x12, x13, x14, x15, x16, x17, x18, x19, x20, x21, x22, x23, x24, x25] H Q = (
    Q .r [x0, x1, x2, x3, (.bool true), x5, x6, x7, x8, x9, x10, x11, x12, x13, x14, x15, x16, x17, x18, x19, x20, x21, x22, x23, x24, x25] H) := by kernel_rfl
/-! 22: dowel/dowellaw49.has -/
theorem w22 {x0 x1 : V} {H : Heap} {k : V → Heap → Prop} : runW G i22 [x0, x1] H k = (
    Lp G b22_0 [x0, x1, undefV, undefV, (.bool false), (.int .i64 0), undefV, undefV, undefV, undefV, undefV, undefV, undefV, undefV, undefV, undefV, undefV, undefV] H (blockQ 0 (seqQ G r22_1 (retQ i22 k)))) := by kernel_rfl
@[simp] theorem ret22 {x0 x1 x2 x3 x4 x5 x6 x7 x8 x9 x10 x11 x12 x13 x14 x15 x16 x17 : V} {H : Heap} {k : V → Heap → Prop} : retQ i22 k .r [x0, x1, x2, x3, x4, x5, x6, x7, x8, x9, x10, x11, x12, x13, x14, x15, x16, x17] H = k x4 H := nrfl
@[simp] theorem ret22n {x0 x1 x2 x3 x4 x5 x6 x7 x8 x9 x10 x11 x12 x13 x14 x15 x16 x17 : V} {H : Heap} {k : V → Heap → Prop} : retQ i22 k .n [x0, x1, x2, x3, x4, x5, x6, x7, x8, x9, x10, x11, x12, x13, x14, x15, x16, x17] H = k x4 H := nrfl
theorem wb22_0 {x0 x1 x2 x3 x4 x5 x6 x7 x8 x9 x10 x11 x12 x13 x14 x15 x16 x17 : V} {H : Heap} {Q : Cont} : wp G b22_0 [x0, x1, x2, x3, x4, x5, x6, x7, x8, x9, x10, x11, x12, x13, x14, x15, x16, x17] H Q = (
    bd (lensV x0) fun a8_2 => 
    bd (binV .lss x5 a8_2) fun a9_3 => 
    ifB a9_3
      (bd (iadrV 1 x0 x5) fun a14_6 => 
      bd (ldV H a14_6 1 false) fun a15_7 => 
      bd (binV .eql a15_7 x1) fun a17_9 => 
      ifB a17_9
        (Q .r [x0, x1, x2, x3, (.bool true), x5, x5, x0, a8_2, a9_3, x10, x11, x0, x5, a14_6, a15_7, x1, a17_9] H)
        (bd (binV .add x5 (.int .i64 1)) fun a11_12 => 
        Q .n [x0, x1, x2, x3, x4, a11_12, x5, x0, a8_2, a9_3, x5, a11_12, x0, x5, a14_6, a15_7, x1, a17_9] H))
      (Q (.e 0) [x0, x1, x2, x3, x4, x5, x5, x0, a8_2, a9_3, x10, x11, x12, x13, x14, x15, x16, x17] H)) := by kernel_rfl
def Sb22_0 (I : Nat → V → V → V → Heap → Prop) : Nat → List V → Heap → Prop := fun i ts H => ts.length = 18 ∧ I i (ts.getD 0 undefV) (ts.getD 1 undefV) (ts.getD 5 undefV) H
@[simp] theorem Sb22_0_eq {I : Nat → V → V → V → Heap → Prop} {i : Nat} {x0 x1 x2 x3 x4 x5 x6 x7 x8 x9 x10 x11 x12 x13 x14 x15 x16 x17 : V} {H : Heap} : Sb22_0 I i [x0, x1, x2, x3, x4, x5, x6, x7, x8, x9, x10, x11, x12, x13, x14, x15, x16, x17] H = I i x0 x1 x5 H := propext ⟨fun h => h.2, fun h => ⟨rfl, h⟩⟩
theorem ub22_0 {Q : Cont} (M : Nat) (I : Nat → V → V → V → Heap → Prop) (step : ∀ i, i ≤ M → ∀ (x0 x1 x5 : V) (H : Heap), I i x0 x1 x5 H → ∀ (x2 x3 x4 x6 x7 x8 x9 x10 x11 x12 x13 x14 x15 x16 x17 : V), wp G b22_0 [x0, x1, x2, x3, x4, x5, x6, x7, x8, x9, x10, x11, x12, x13, x14, x15, x16, x17] H (upQ M (Sb22_0 I) i Q)) (i : Nat) (hi : i ≤ M) {x0 x1 x2 x3 x4 x5 x6 x7 x8 x9 x10 x11 x12 x13 x14 x15 x16 x17 : V} {H : Heap} (h : I i x0 x1 x5 H) : Lp G b22_0 [x0, x1, x2, x3, x4, x5, x6, x7, x8, x9, x10, x11, x12, x13, x14, x15, x16, x17] H Q :=
  Lp.up (S := Sb22_0 I) (fun i ts H hi hS => (congrArg (fun t => wp G b22_0 t H (upQ M (Sb22_0 I) i Q)) (tabF_eq hS.1)).mpr (step i hi (ts.getD 0 undefV) (ts.getD 1 undefV) (ts.getD 5 undefV) H hS.2 (ts.getD 2 undefV) (ts.getD 3 undefV) (ts.getD 4 undefV) (ts.getD 6 undefV) (ts.getD 7 undefV) (ts.getD 8 undefV) (ts.getD 9 undefV) (ts.getD 10 undefV) (ts.getD 11 undefV) (ts.getD 12 undefV) (ts.getD 13 undefV) (ts.getD 14 undefV) (ts.getD 15 undefV) (ts.getD 16 undefV) (ts.getD 17 undefV))) _ i _ H rfl hi ⟨rfl, h⟩
theorem wr22_1 {x0 x1 x2 x3 x4 x5 x6 x7 x8 x9 x10 x11 x12 x13 x14 x15 x16 x17 : V} {H : Heap} {Q : Cont} : wp G r22_1 [x0, x1, x2, x3, x4, x5, x6, x7, x8, x9, x10, x11, x12, x13, x14, x15, x16, x17] H Q = (
    Q .r [x0, x1, x2, x3, (.bool false), x5, x6, x7, x8, x9, x10, x11, x12, x13, x14, x15, x16, x17] H) := by kernel_rfl
/-! 31: slices.EqualFunc[[]dowel/task.Task,[]dowel/task.Task,dowel/task.Task,dowel/task.Task] -/
theorem w31 {x0 x1 x2 : V} {H : Heap} {k : V → Heap → Prop} : runW G i31 [x0, x1, x2] H k = (
    bd (lensV x0) fun a11_2 => 
    bd (lensV x1) fun a13_4 => 
    bd (binV .neq a11_2 a13_4) fun a14_5 => 
    ifB a14_5
      (k (.bool false) H)
      (bd (lensV x0) fun a16_8 => 
      Lp G b31_0 [x0, x1, x2, undefV, undefV, undefV, (.bool false), undefV, undefV, undefV, x0, a11_2, x1, a13_4, a14_5, x0, a16_8, (.int .i64 0), undefV, undefV, undefV, undefV, undefV, undefV, undefV, undefV, undefV, undefV, undefV, undefV, undefV, undefV] H (blockQ 0 (seqQ G r31_1 (retQ i31 k))))) := by kernel_rfl
@[simp] theorem ret31 {x0 x1 x2 x3 x4 x5 x6 x7 x8 x9 x10 x11 x12 x13 x14 x15 x16 x17 x18 x19 x20 x21 x22 x23 x24 x25 x26 x27 x28 x29 x30 x31 : V} {H : Heap} {k : V → Heap → Prop} : retQ i31 k .r [x0, x1, x2, x3, x4, x5, x6, x7, x8, x9, x10, x11, x12, x13, x14, x15, x16, x17, x18, x19, x20, x21, x22, x23, x24, x25, x26, x27, x28, x29, x30, x31] H = k x6 H := nrfl
@[simp] theorem ret31n {x0 x1 x2 x3 x4 x5 x6 x7 x8 x9 x10 x11 x12 x13 x14 x15 x16 x17 x18 x19 x20 x21 x22 x23 x24 x25 x26 x27 x28 x29 x30 x31 : V} {H : Heap} {k : V → Heap → Prop} : retQ i31 k .n [x0, x1, x2, x3, x4, x5, x6, x7, x8, x9, x10, x11, x12, x13, x14, x15, x16, x17, x18, x19, x20, x21, x22, x23, x24, x25, x26, x27, x28, x29, x30, x31] H = k x6 H := nrfl
theorem wb31_0 {x0 x1 x2 x3 x4 x5 x6 x7 x8 x9 x10 x11 x12 x13 x14 x15 x16 x17 x18 x19 x20 x21 x22 x23 x24 x25 x26 x27 x28 x29 x30 x31 : V} {H : Heap} {Q : Cont} : wp G b31_0 [x0, x1, x2, x3, x4, x5, x6, x7, x8, x9, x10, x11, x12, x13, x14, x15, x16, x17, x18, x19, x20, x21, x22, x23, x24, x25, x26, x27, x28, x29, x30, x31] H Q = (
    bd (binV .lss x17 x16) fun a18_0 => 
    ifB a18_0
      (bd (iadrV 4 x15 x17) fun a20_2 => 
      bd (ldV H a20_2 4 true) fun a21_3 => 
      newB H (.cells [(.str []), (.int .i64 0), (.str []), .nils]) fun a8_4 ha8_4 => 
      true = true ∧ bd (stV ha8_4 4 a8_4 a21_3) fun hu6 => 
      bd (iadrV 4 x1 x17) fun a24_9 => 
      bd (ldV hu6 a24_9 4 true) fun a25_10 => 
      newB hu6 (.cells [(.str []), (.int .i64 0), (.str []), .nils]) fun a9_11 ha9_11 => 
      true = true ∧ bd (stV ha9_11 4 a9_11 a25_10) fun hu12 => 
      bd (ldV hu12 a8_4 4 true) fun a27_14 => 
      bd (ldV hu12 a9_11 4 true) fun a28_15 => 
      bd (callV x2) fun c => (true || G.pur c.1) = true ∧ Cl G c.1 ([a27_14, a28_15] ++ c.2) hu12 fun a29_16 ha29_16 => 
      bd (unV .not a29_16) fun a30_17 => 
      ifB a30_17
        (Q .r [x0, x1, x2, x3, x4, x5, (.bool false), x17, a8_4, a9_11, x10, x11, x12, x13, x14, x15, x16, x17, a18_0, x17, a20_2, a21_3, x1, x17, a24_9, a25_10, x2, a27_14, a28_15, a29_16, a30_17, x31] ha29_16)
        (bd (binV .add x17 (.int .i64 1)) fun a31_19 => 
        Q .n [x0, x1, x2, x3, x4, x5, x6, x17, a8_4, a9_11, x10, x11, x12, x13, x14, x15, x16, a31_19, a18_0, x17, a20_2, a21_3, x1, x17, a24_9, a25_10, x2, a27_14, a28_15, a29_16, a30_17, a31_19] ha29_16))
      (Q (.e 0) [x0, x1, x2, x3, x4, x5, x6, x7, x8, x9, x10, x11, x12, x13, x14, x15, x16, x17, a18_0, x19, x20, x21, x22, x23, x24, x25, x26, x27, x28, x29, x30, x31] H)) := by kernel_rfl
def Sb31_0 (I : Nat → V → V → V → V → V → Heap → Prop) : Nat → List V → Heap → Prop := fun i ts H => ts.length = 32 ∧ I i (ts.getD 1 undefV) (ts.getD 2 undefV) (ts.getD 15 undefV) (ts.getD 16 undefV) (ts.getD 17 undefV) H
@[simp] theorem Sb31_0_eq {I : Nat → V → V → V → V → V → Heap → Prop} {i : Nat} {x0 x1 x2 x3 x4 x5 x6 x7 x8 x9 x10 x11 x12 x13 x14 x15 x16 x17 x18 x19 x20 x21 x22 x23 x24 x25 x26 x27 x28 x29 x30 x31 : V} {H : Heap} : Sb31_0 I i [x0, x1, x2, x3, x4, x5, x6, x7, x8, x9, x10, x11, x12, x13, x14, x15, x16, x17, x18, x19, x20, x21, x22, x23, x24, x25, x26, x27, x28, x29, x30, x31] H = I i x1 x2 x15 x16 x17 H := propext ⟨fun h => h.2, fun h => ⟨rfl, h⟩⟩
theorem ub31_0 {Q : Cont} (M : Nat) (I : Nat → V → V → V → V → V → Heap → Prop) (step : ∀ i, i ≤ M → ∀ (x1 x2 x15 x16 x17 : V) (H : Heap), I i x1 x2 x15 x16 x17 H → ∀ (x0 x3 x4 x5 x6 x7 x8 x9 x10 x11 x12 x13 x14 x18 x19 x20 x21 x22 x23 x24 x25 x26 x27 x28 x29 x30 x31 : V), wp G b31_0 [x0, x1, x2, x3, x4, x5, x6, x7, x8, x9, x10, x11, x12, x13, x14, x15, x16, x17, x18, x19, x20, x21, x22, x23, x24, x25, x26, x27, x28, x29, x30, x31] H (upQ M (Sb31_0 I) i Q)) (i : Nat) (hi : i ≤ M) {x0 x1 x2 x3 x4 x5 x6 x7 x8 x9 x10 x11 x12 x13 x14 x15 x16 x17 x18 x19 x20 x21 x22 x23 x24 x25 x26 x27 x28 x29 x30 x31 : V} {H : Heap} (h : I i x1 x2 x15 x16 x17 H) : Lp G b31_0 [x0, x1, x2, x3, x4, x5, x6, x7, x8, x9, x10, x11, x12, x13, x14, x15, x16, x17, x18, x19, x20, x21, x22, x23, x24, x25, x26, x27, x28, x29, x30, x31] H Q :=
  Lp.up (S := Sb31_0 I) (fun i ts H hi hS => (congrArg (fun t => wp G b31_0 t H (upQ M (Sb31_0 I) i Q)) (tabF_eq hS.1)).mpr (step i hi (ts.getD 1 undefV) (ts.getD 2 undefV) (ts.getD 15 undefV) (ts.getD 16 undefV) (ts.getD 17 undefV) H hS.2 (ts.getD 0 undefV) (ts.getD 3 undefV) (ts.getD 4 undefV) (ts.getD 5 undefV) (ts.getD 6 undefV) (ts.getD 7 undefV) (ts.getD 8 undefV) (ts.getD 9 undefV) (ts.getD 10 undefV) (ts.getD 11 undefV) (ts.getD 12 undefV) (ts.getD 13 undefV) (ts.getD 14 undefV) (ts.getD 18 undefV) (ts.getD 19 undefV) (ts.getD 20 undefV) (ts.getD 21 undefV) (ts.getD 22 undefV) (ts.getD 23 undefV) (ts.getD 24 undefV) (ts.getD 25 undefV) (ts.getD 26 undefV) (ts.getD 27 undefV) (ts.getD 28 undefV) (ts.getD 29 undefV) (ts.getD 30 undefV) (ts.getD 31 undefV))) _ i _ H rfl hi ⟨rfl, h⟩
theorem wr31_1 {x0 x1 x2 x3 x4 x5 x6 x7 x8 x9 x10 x11 x12 x13 x14 x15 x16 x17 x18 x19 x20 x21 x22 x23 x24 x25 x26 x27 x28 x29 x30 x31 : V} {H : Heap} {Q : Cont} : wp G r31_1 [x0, x1, x2, x3, x4, x5, x6, x7, x8, x9, x10, x11, x12, x13, x14, x15, x16, x17, x18, x19, x20, x21, x22, x23, x24, x25, x26, x27, x28, x29, x30, x31] H Q = (
    Q .r [x0, x1, x2, x3, x4, x5, (.bool true), x7, x8, x9, x10, x11, x12, x13, x14, x15, x16, x17, x18, x19, x20, x21, x22, x23, x24, x25, x26, x27, x28, x29, x30, x31] H) := by kernel_rfl
/-! 32: dowel/task.Equal$1 -/
theorem w32 {x0 x1 : V} {H : Heap} {k : V → Heap → Prop} : runW G i32 [x0, x1] H k = (
    bd (bxrV x0) fun a2_0 => 
    bd (bxrV x1) fun a3_1 => 
    bd (fadrV 0 a2_0) fun a5_3 => 
    bd (ldV H a5_3 1 false) fun a6_4 => 
    bd (fadrV 0 a3_1) fun a7_5 => 
    bd (ldV H a7_5 1 false) fun a8_6 => 
    bd (binV .eql a6_4 a8_6) fun a9_7 => 
    wpg (gdV a9_7 true) H (fun k => bd (fadrV 1 a2_0) fun a11_9i => k a11_9i H) fun a11_9 ha11_9 => 
    wpg (gdV a9_7 true) ha11_9 (fun k => bd (ldV ha11_9 a11_9 1 false) fun a12_10i => k a12_10i ha11_9) fun a12_10 ha12_10 => 
    wpg (gdV a9_7 true) ha12_10 (fun k => bd (fadrV 1 a3_1) fun a13_11i => k a13_11i ha12_10) fun a13_11 ha13_11 => 
    wpg (gdV a9_7 true) ha13_11 (fun k => bd (ldV ha13_11 a13_11 1 false) fun a14_12i => k a14_12i ha13_11) fun a14_12 ha14_12 => 
    wpg (gdV a9_7 true) ha14_12 (fun k => bd (binV .eql a12_10 a14_12) fun a15_13i => k a15_13i ha14_12) fun a15_13 ha15_13 => 
    bd (pickV a9_7 a15_13 (.bool false)) fun a16_14 => 
    wpg (gdV a16_14 true) ha15_13 (fun k => bd (fadrV 2 a2_0) fun a18_16i => k a18_16i ha15_13) fun a18_16 ha18_16 => 
    wpg (gdV a16_14 true) ha18_16 (fun k => bd (ldV ha18_16 a18_16 1 false) fun a19_17i => k a19_17i ha18_16) fun a19_17 ha19_17 => 
    wpg (gdV a16_14 true) ha19_17 (fun k => bd (fadrV 2 a3_1) fun a20_18i => k a20_18i ha19_17) fun a20_18 ha20_18 => 
    wpg (gdV a16_14 true) ha20_18 (fun k => bd (ldV ha20_18 a20_18 1 false) fun a21_19i => k a21_19i ha20_18) fun a21_19 ha21_19 => 
    wpg (gdV a16_14 true) ha21_19 (fun k => bd (binV .eql a19_17 a21_19) fun a22_20i => k a22_20i ha21_19) fun a22_20 ha22_20 => 
    bd (pickV a16_14 a22_20 (.bool false)) fun a23_21 => 
    wpg (gdV a23_21 true) ha22_20 (fun k => bd (fadrV 3 a2_0) fun a25_23i => k a25_23i ha22_20) fun a25_23 ha25_23 => 
    wpg (gdV a23_21 true) ha25_23 (fun k => bd (ldV ha25_23 a25_23 1 false) fun a26_24i => k a26_24i ha25_23) fun a26_24 ha26_24 => 
    wpg (gdV a23_21 true) ha26_24 (fun k => bd (fadrV 3 a3_1) fun a27_25i => k a27_25i ha26_24) fun a27_25 ha27_25 => 
    wpg (gdV a23_21 true) ha27_25 (fun k => bd (ldV ha27_25 a27_25 1 false) fun a28_26i => k a28_26i ha27_25) fun a28_26 ha28_26 => 
    wpg (gdV a23_21 true) ha28_26 (fun k => (true || G.pur 33) = true ∧ Cl G 33 [a26_24, a28_26] ha28_26 fun a29_27i ha29_27i => k a29_27i ha29_27i) fun a29_27 ha29_27 => 
    bd (pickV a23_21 a29_27 (.bool false)) fun a30_28 => 
    k a30_28 ha29_27) := by kernel_rfl
@[simp] theorem ret32 {x0 x1 x2 x3 x4 x5 x6 x7 x8 x9 x10 x11 x12 x13 x14 x15 x16 x17 x18 x19 x20 x21 x22 x23 x24 x25 x26 x27 x28 x29 x30 : V} {H : Heap} {k : V → Heap → Prop} : retQ i32 k .r [x0, x1, x2, x3, x4, x5, x6, x7, x8, x9, x10, x11, x12, x13, x14, x15, x16, x17, x18, x19, x20, x21, x22, x23, x24, x25, x26, x27, x28, x29, x30] H = k x4 H := nrfl
@[simp] theorem ret32n {x0 x1 x2 x3 x4 x5 x6 x7 x8 x9 x10 x11 x12 x13 x14 x15 x16 x17 x18 x19 x20 x21 x22 x23 x24 x25 x26 x27 x28 x29 x30 : V} {H : Heap} {k : V → Heap → Prop} : retQ i32 k .n [x0, x1, x2, x3, x4, x5, x6, x7, x8, x9, x10, x11, x12, x13, x14, x15, x16, x17, x18, x19, x20, x21, x22, x23, x24, x25, x26, x27, x28, x29, x30] H = k x4 H := nrfl
/-! 33: slices.Equal[[]int,int] -/
theorem w33 {x0 x1 : V} {H : Heap} {k : V → Heap → Prop} : runW G i33 [x0, x1] H k = (
    bd (lensV x0) fun a7_2 => 
    bd (lensV x1) fun a9_4 => 
    bd (binV .neq a7_2 a9_4) fun a10_5 => 
    ifB a10_5
      (k (.bool false) H)
      (bd (lensV x0) fun a12_8 => 
      Lp G b33_0 [x0, x1, undefV, undefV, (.bool false), undefV, x0, a7_2, x1, a9_4, a10_5, x0, a12_8, (.int .i64 0), undefV, undefV, undefV, undefV, undefV, undefV, undefV, undefV, undefV, undefV, undefV, undefV] H (blockQ 0 (seqQ G r33_1 (retQ i33 k))))) := by kernel_rfl
@[simp] theorem ret33 {x0 x1 x2 x3 x4 x5 x6 x7 x8 x9 x10 x11 x12 x13 x14 x15 x16 x17 x18 x19 x20 x21 x22 x23 x24 x25 : V} {H : Heap} {k : V → Heap → Prop} : retQ i33 k .r [x0, x1, x2, x3, x4, x5, x6, x7, x8, x9, x10, x11, x12, x13, x14, x15, x16, x17, x18, x19, x20, x21, x22, x23, x24, x25] H = k x4 H := nrfl
@[simp] theorem ret33n {x0 x1 x2 x3 x4 x5 x6 x7 x8 x9 x10 x11 x12 x13 x14 x15 x16 x17 x18 x19 x20 x21 x22 x23 x24 x25 : V} {H : Heap} {k : V → Heap → Prop} : retQ i33 k .n [x0, x1, x2, x3, x4, x5, x6, x7, x8, x9, x10, x11, x12, x13, x14, x15, x16, x17, x18, x19, x20, x21, x22, x23, x24, x25] H = k x4 H := nrfl
theorem wb33_0 {x0 x1 x2 x3 x4 x5 x6 x7 x8 x9 x10 x11 x12 x13 x14 x15 x16 x17 x18 x19 x20 x21 x22 x23 x24 x25 : V} {H : Heap} {Q : Cont} : wp G b33_0 [x0, x1, x2, x3, x4, x5, x6, x7, x8, x9, x10, x11, x12, x13, x14, x15, x16, x17, x18, x19, x20, x21, x22, x23, x24, x25] H Q = (
    bd (binV .lss x13 x12) fun a14_0 => 
    ifB a14_0
      (bd (iadrV 1 x0 x13) fun a18_5 => 
      bd (ldV H a18_5 1 false) fun a19_6 => 
      bd (iadrV 1 x1 x13) fun a22_9 => 
      bd (ldV H a22_9 1 false) fun a23_10 => 
      bd (binV .neq a19_6 a23_10) fun a24_11 => 
      ifB a24_11
        (Q .r [x0, x1, x2, x3, (.bool false), x13, x6, x7, x8, x9, x10, x11, x12, x13, a14_0, x13, x0, x13, a18_5, a19_6, x1, x13, a22_9, a23_10, a24_11, x25] H)
        (bd (binV .add x13 (.int .i64 1)) fun a25_13 => 
        Q .n [x0, x1, x2, x3, x4, x13, x6, x7, x8, x9, x10, x11, x12, a25_13, a14_0, x13, x0, x13, a18_5, a19_6, x1, x13, a22_9, a23_10, a24_11, a25_13] H))
      (Q (.e 0) [x0, x1, x2, x3, x4, x5, x6, x7, x8, x9, x10, x11, x12, x13, a14_0, x15, x16, x17, x18, x19, x20, x21, x22, x23, x24, x25] H)) := by kernel_rfl
def Sb33_0 (I : Nat → V → V → V → V → Heap → Prop) : Nat → List V → Heap → Prop := fun i ts H => ts.length = 26 ∧ I i (ts.getD 0 undefV) (ts.getD 1 undefV) (ts.getD 12 undefV) (ts.getD 13 undefV) H
@[simp] theorem Sb33_0_eq {I : Nat → V → V → V → V → Heap → Prop} {i : Nat} {x0 x1 x2 x3 x4 x5 x6 x7 x8 x9 x10 x11 x12 x13 x14 x15 x16 x17 x18 x19 x20 x21 x22 x23 x24 x25 : V} {H : Heap} : Sb33_0 I i [x0, x1, x2, x3, x4, x5, x6, x7, x8, x9, x10, x11, x12, x13, x14, x15, x16, x17, x18, x19, x20, x21, x22, x23, x24, x25] H = I i x0 x1 x12 x13 H := propext ⟨fun h => h.2, fun h => ⟨rfl, h⟩⟩
theorem ub33_0 {Q : Cont} (M : Nat) (I : Nat → V → V → V → V → Heap → Prop) (step : ∀ i, i ≤ M → ∀ (x0 x1 x12 x13 : V) (H : Heap), I i x0 x1 x12 x13 H → ∀ (x2 x3 x4 x5 x6 x7 x8 x9 x10 x11 x14 x15 x16 x17 x18 x19 x20 x21 x22 x23 x24 x25 : V), wp G b33_0 [x0, x1, x2, x3, x4, x5, x6, x7, x8, x9, x10, x11, x12, x13, x14, x15, x16, x17, x18, x19, x20, x21, x22, x23, x24, x25] H (upQ M (Sb33_0 I) i Q)) (i : Nat) (hi : i ≤ M) {x0 x1 x2 x3 x4 x5 x6 x7 x8 x9 x10 x11 x12 x13 x14 x15 x16 x17 x18 x19 x20 x21 x22 x23 x24 x25 : V} {H : Heap} (h : I i x0 x1 x12 x13 H) : Lp G b33_0 [x0, x1, x2, x3, x4, x5, x6, x7, x8, x9, x10, x11, x12, x13, x14, x15, x16, x17, x18, x19, x20, x21, x22, x23, x24, x25] H Q :=
  Lp.up (S := Sb33_0 I) (fun i ts H hi hS => (congrArg (fun t => wp G b33_0 t H (upQ M (Sb33_0 I) i Q)) (tabF_eq hS.1)).mpr (step i hi (ts.getD 0 undefV) (ts.getD 1 undefV) (ts.getD 12 undefV) (ts.getD 13 undefV) H hS.2 (ts.getD 2 undefV) (ts.getD 3 undefV) (ts.getD 4 undefV) (ts.getD 5 undefV) (ts.getD 6 undefV) (ts.getD 7 undefV) (ts.getD 8 undefV) (ts.getD 9 undefV) (ts.getD 10 undefV) (ts.getD 11 undefV) (ts.getD 14 undefV) (ts.getD 15 undefV) (ts.getD 16 undefV) (ts.getD 17 undefV) (ts.getD 18 undefV) (ts.getD 19 undefV) (ts.getD 20 undefV) (ts.getD 21 undefV) (ts.getD 22 undefV) (ts.getD 23 undefV) (ts.getD 24 undefV) (ts.getD 25 undefV))) _ i _ H rfl hi ⟨rfl, h⟩
theorem wr33_1 {x0 x1 x2 x3 x4 x5 x6 x7 x8 x9 x10 x11 x12 x13 x14 x15 x16 x17 x18 x19 x20 x21 x22 x23 x24 x25 : V} {H : Heap} {Q : Cont} : wp G r33_1 [x0, x1, x2, x3, x4, x5, x6, x7, x8, x9, x10, x11, x12, x13, x14, x15, x16, x17, x18, x19, x20, x21, x22, x23, x24, x25] H Q = (
    Q .r [x0, x1, x2, x3, (.bool true), x5, x6, x7, x8, x9, x10, x11, x12, x13, x14, x15, x16, x17, x18, x19, x20, x21, x22, x23, x24, x25] H) := by kernel_rfl
/-! 34: slices.EqualFunc[[]dowel/task.Station,[]dowel/task.Station,dowel/task.Station,dowel/task.Station] -/
theorem w34 {x0 x1 x2 : V} {H : Heap} {k : V → Heap → Prop} : runW G i34 [x0, x1, x2] H k = (
    bd (lensV x0) fun a11_2 => 
    bd (lensV x1) fun a13_4 => 
    bd (binV .neq a11_2 a13_4) fun a14_5 => 
    ifB a14_5
      (k (.bool false) H)
      (bd (lensV x0) fun a16_8 => 
      Lp G b34_0 [x0, x1, x2, undefV, undefV, undefV, (.bool false), undefV, undefV, undefV, x0, a11_2, x1, a13_4, a14_5, x0, a16_8, (.int .i64 0), undefV, undefV, undefV, undefV, undefV, undefV, undefV, undefV, undefV, undefV, undefV, undefV, undefV, undefV] H (blockQ 0 (seqQ G r34_1 (retQ i34 k))))) := by kernel_rfl
@[simp] theorem ret34 {x0 x1 x2 x3 x4 x5 x6 x7 x8 x9 x10 x11 x12 x13 x14 x15 x16 x17 x18 x19 x20 x21 x22 x23 x24 x25 x26 x27 x28 x29 x30 x31 : V} {H : Heap} {k : V → Heap → Prop} : retQ i34 k .r [x0, x1, x2, x3, x4, x5, x6, x7, x8, x9, x10, x11, x12, x13, x14, x15, x16, x17, x18, x19, x20, x21, x22, x23, x24, x25, x26, x27, x28, x29, x30, x31] H = k x6 H := nrfl
@[simp] theorem ret34n {x0 x1 x2 x3 x4 x5 x6 x7 x8 x9 x10 x11 x12 x13 x14 x15 x16 x17 x18 x19 x20 x21 x22 x23 x24 x25 x26 x27 x28 x29 x30 x31 : V} {H : Heap} {k : V → Heap → Prop} : retQ i34 k .n [x0, x1, x2, x3, x4, x5, x6, x7, x8, x9, x10, x11, x12, x13, x14, x15, x16, x17, x18, x19, x20, x21, x22, x23, x24, x25, x26, x27, x28, x29, x30, x31] H = k x6 H := nrfl
theorem wb34_0 {x0 x1 x2 x3 x4 x5 x6 x7 x8 x9 x10 x11 x12 x13 x14 x15 x16 x17 x18 x19 x20 x21 x22 x23 x24 x25 x26 x27 x28 x29 x30 x31 : V} {H : Heap} {Q : Cont} : wp G b34_0 [x0, x1, x2, x3, x4, x5, x6, x7, x8, x9, x10, x11, x12, x13, x14, x15, x16, x17, x18, x19, x20, x21, x22, x23, x24, x25, x26, x27, x28, x29, x30, x31] H Q = (
    bd (binV .lss x17 x16) fun a18_0 => 
    ifB a18_0
      (bd (iadrV 2 x15 x17) fun a20_2 => 
      bd (ldV H a20_2 2 true) fun a21_3 => 
      newB H (.cells [(.str []), .nils]) fun a8_4 ha8_4 => 
      true = true ∧ bd (stV ha8_4 2 a8_4 a21_3) fun hu6 => 
      bd (iadrV 2 x1 x17) fun a24_9 => 
      bd (ldV hu6 a24_9 2 true) fun a25_10 => 
      newB hu6 (.cells [(.str []), .nils]) fun a9_11 ha9_11 => 
      true = true ∧ bd (stV ha9_11 2 a9_11 a25_10) fun hu12 => 
      bd (ldV hu12 a8_4 2 true) fun a27_14 => 
      bd (ldV hu12 a9_11 2 true) fun a28_15 => 
      bd (callV x2) fun c => (true || G.pur c.1) = true ∧ Cl G c.1 ([a27_14, a28_15] ++ c.2) hu12 fun a29_16 ha29_16 => 
      bd (unV .not a29_16) fun a30_17 => 
      ifB a30_17
        (Q .r [x0, x1, x2, x3, x4, x5, (.bool false), x17, a8_4, a9_11, x10, x11, x12, x13, x14, x15, x16, x17, a18_0, x17, a20_2, a21_3, x1, x17, a24_9, a25_10, x2, a27_14, a28_15, a29_16, a30_17, x31] ha29_16)
        (bd (binV .add x17 (.int .i64 1)) fun a31_19 => 
        Q .n [x0, x1, x2, x3, x4, x5, x6, x17, a8_4, a9_11, x10, x11, x12, x13, x14, x15, x16, a31_19, a18_0, x17, a20_2, a21_3, x1, x17, a24_9, a25_10, x2, a27_14, a28_15, a29_16, a30_17, a31_19] ha29_16))
      (Q (.e 0) [x0, x1, x2, x3, x4, x5, x6, x7, x8, x9, x10, x11, x12, x13, x14, x15, x16, x17, a18_0, x19, x20, x21, x22, x23, x24, x25, x26, x27, x28, x29, x30, x31] H)) := by kernel_rfl
def Sb34_0 (I : Nat → V → V → V → V → V → Heap → Prop) : Nat → List V → Heap → Prop := fun i ts H => ts.length = 32 ∧ I i (ts.getD 1 undefV) (ts.getD 2 undefV) (ts.getD 15 undefV) (ts.getD 16 undefV) (ts.getD 17 undefV) H
@[simp] theorem Sb34_0_eq {I : Nat → V → V → V → V → V → Heap → Prop} {i : Nat} {x0 x1 x2 x3 x4 x5 x6 x7 x8 x9 x10 x11 x12 x13 x14 x15 x16 x17 x18 x19 x20 x21 x22 x23 x24 x25 x26 x27 x28 x29 x30 x31 : V} {H : Heap} : Sb34_0 I i [x0, x1, x2, x3, x4, x5, x6, x7, x8, x9, x10, x11, x12, x13, x14, x15, x16, x17, x18, x19, x20, x21, x22, x23, x24, x25, x26, x27, x28, x29, x30, x31] H = I i x1 x2 x15 x16 x17 H := propext ⟨fun h => h.2, fun h => ⟨rfl, h⟩⟩
theorem ub34_0 {Q : Cont} (M : Nat) (I : Nat → V → V → V → V → V → Heap → Prop) (step : ∀ i, i ≤ M → ∀ (x1 x2 x15 x16 x17 : V) (H : Heap), I i x1 x2 x15 x16 x17 H → ∀ (x0 x3 x4 x5 x6 x7 x8 x9 x10 x11 x12 x13 x14 x18 x19 x20 x21 x22 x23 x24 x25 x26 x27 x28 x29 x30 x31 : V), wp G b34_0 [x0, x1, x2, x3, x4, x5, x6, x7, x8, x9, x10, x11, x12, x13, x14, x15, x16, x17, x18, x19, x20, x21, x22, x23, x24, x25, x26, x27, x28, x29, x30, x31] H (upQ M (Sb34_0 I) i Q)) (i : Nat) (hi : i ≤ M) {x0 x1 x2 x3 x4 x5 x6 x7 x8 x9 x10 x11 x12 x13 x14 x15 x16 x17 x18 x19 x20 x21 x22 x23 x24 x25 x26 x27 x28 x29 x30 x31 : V} {H : Heap} (h : I i x1 x2 x15 x16 x17 H) : Lp G b34_0 [x0, x1, x2, x3, x4, x5, x6, x7, x8, x9, x10, x11, x12, x13, x14, x15, x16, x17, x18, x19, x20, x21, x22, x23, x24, x25, x26, x27, x28, x29, x30, x31] H Q :=
  Lp.up (S := Sb34_0 I) (fun i ts H hi hS => (congrArg (fun t => wp G b34_0 t H (upQ M (Sb34_0 I) i Q)) (tabF_eq hS.1)).mpr (step i hi (ts.getD 1 undefV) (ts.getD 2 undefV) (ts.getD 15 undefV) (ts.getD 16 undefV) (ts.getD 17 undefV) H hS.2 (ts.getD 0 undefV) (ts.getD 3 undefV) (ts.getD 4 undefV) (ts.getD 5 undefV) (ts.getD 6 undefV) (ts.getD 7 undefV) (ts.getD 8 undefV) (ts.getD 9 undefV) (ts.getD 10 undefV) (ts.getD 11 undefV) (ts.getD 12 undefV) (ts.getD 13 undefV) (ts.getD 14 undefV) (ts.getD 18 undefV) (ts.getD 19 undefV) (ts.getD 20 undefV) (ts.getD 21 undefV) (ts.getD 22 undefV) (ts.getD 23 undefV) (ts.getD 24 undefV) (ts.getD 25 undefV) (ts.getD 26 undefV) (ts.getD 27 undefV) (ts.getD 28 undefV) (ts.getD 29 undefV) (ts.getD 30 undefV) (ts.getD 31 undefV))) _ i _ H rfl hi ⟨rfl, h⟩
theorem wr34_1 {x0 x1 x2 x3 x4 x5 x6 x7 x8 x9 x10 x11 x12 x13 x14 x15 x16 x17 x18 x19 x20 x21 x22 x23 x24 x25 x26 x27 x28 x29 x30 x31 : V} {H : Heap} {Q : Cont} : wp G r34_1 [x0, x1, x2, x3, x4, x5, x6, x7, x8, x9, x10, x11, x12, x13, x14, x15, x16, x17, x18, x19, x20, x21, x22, x23, x24, x25, x26, x27, x28, x29, x30, x31] H Q = (
    Q .r [x0, x1, x2, x3, x4, x5, (.bool true), x7, x8, x9, x10, x11, x12, x13, x14, x15, x16, x17, x18, x19, x20, x21, x22, x23, x24, x25, x26, x27, x28, x29, x30, x31] H) := by kernel_rfl
/-! 35: dowel/task.Equal$2 -/
theorem w35 {x0 x1 : V} {H : Heap} {k : V → Heap → Prop} : runW G i35 [x0, x1] H k = (
    bd (bxrV x0) fun a2_0 => 
    bd (bxrV x1) fun a3_1 => 
    bd (fadrV 0 a2_0) fun a5_3 => 
    bd (ldV H a5_3 1 false) fun a6_4 => 
    bd (fadrV 0 a3_1) fun a7_5 => 
    bd (ldV H a7_5 1 false) fun a8_6 => 
    bd (binV .eql a6_4 a8_6) fun a9_7 => 
    wpg (gdV a9_7 true) H (fun k => bd (fadrV 1 a2_0) fun a11_9i => k a11_9i H) fun a11_9 ha11_9 => 
    wpg (gdV a9_7 true) ha11_9 (fun k => bd (ldV ha11_9 a11_9 1 false) fun a12_10i => k a12_10i ha11_9) fun a12_10 ha12_10 => 
    wpg (gdV a9_7 true) ha12_10 (fun k => bd (fadrV 1 a3_1) fun a13_11i => k a13_11i ha12_10) fun a13_11 ha13_11 => 
    wpg (gdV a9_7 true) ha13_11 (fun k => bd (ldV ha13_11 a13_11 1 false) fun a14_12i => k a14_12i ha13_11) fun a14_12 ha14_12 => 
    wpg (gdV a9_7 true) ha14_12 (fun k => (true || G.pur 36) = true ∧ Cl G 36 [a12_10, a14_12] ha14_12 fun a15_13i ha15_13i => k a15_13i ha15_13i) fun a15_13 ha15_13 => 
    bd (pickV a9_7 a15_13 (.bool false)) fun a16_14 => 
    k a16_14 ha15_13) := by kernel_rfl
@[simp] theorem ret35 {x0 x1 x2 x3 x4 x5 x6 x7 x8 x9 x10 x11 x12 x13 x14 x15 x16 : V} {H : Heap} {k : V → Heap → Prop} : retQ i35 k .r [x0, x1, x2, x3, x4, x5, x6, x7, x8, x9, x10, x11, x12, x13, x14, x15, x16] H = k x4 H := nrfl
@[simp] theorem ret35n {x0 x1 x2 x3 x4 x5 x6 x7 x8 x9 x10 x11 x12 x13 x14 x15 x16 : V} {H : Heap} {k : V → Heap → Prop} : retQ i35 k .n [x0, x1, x2, x3, x4, x5, x6, x7, x8, x9, x10, x11, x12, x13, x14, x15, x16] H = k x4 H := nrfl
/-! 36: slices.Equal[[]string,string] -/
theorem w36 {x0 x1 : V} {H : Heap} {k : V → Heap → Prop} : runW G i36 [x0, x1] H k = (
    bd (lensV x0) fun a7_2 => 
    bd (lensV x1) fun a9_4 => 
    bd (binV .neq a7_2 a9_4) fun a10_5 => 
    ifB a10_5
      (k (.bool false) H)
      (bd (lensV x0) fun a12_8 => 
      Lp G b36_0 [x0, x1, undefV, undefV, (.bool false), undefV, x0, a7_2, x1, a9_4, a10_5, x0, a12_8, (.int .i64 0), undefV, undefV, undefV, undefV, undefV, undefV, undefV, undefV, undefV, undefV, undefV, undefV] H (blockQ 0 (seqQ G r36_1 (retQ i36 k))))) := by kernel_rfl
@[simp] theorem ret36 {x0 x1 x2 x3 x4 x5 x6 x7 x8 x9 x10 x11 x12 x13 x14 x15 x16 x17 x18 x19 x20 x21 x22 x23 x24 x25 : V} {H : Heap} {k : V → Heap → Prop} : retQ i36 k .r [x0, x1, x2, x3, x4, x5, x6, x7, x8, x9, x10, x11, x12, x13, x14, x15, x16, x17, x18, x19, x20, x21, x22, x23, x24, x25] H = k x4 H := nrfl
@[simp] theorem ret36n {x0 x1 x2 x3 x4 x5 x6 x7 x8 x9 x10 x11 x12 x13 x14 x15 x16 x17 x18 x19 x20 x21 x22 x23 x24 x25 : V} {H : Heap} {k : V → Heap → Prop} : retQ i36 k .n [x0, x1, x2, x3, x4, x5, x6, x7, x8, x9, x10, x11, x12, x13, x14, x15, x16, x17, x18, x19, x20, x21, x22, x23, x24, x25] H = k x4 H := nrfl
theorem wb36_0 {x0 x1 x2 x3 x4 x5 x6 x7 x8 x9 x10 x11 x12 x13 x14 x15 x16 x17 x18 x19 x20 x21 x22 x23 x24 x25 : V} {H : Heap} {Q : Cont} : wp G b36_0 [x0, x1, x2, x3, x4, x5, x6, x7, x8, x9, x10, x11, x12, x13, x14, x15, x16, x17, x18, x19, x20, x21, x22, x23, x24, x25] H Q = (
    bd (binV .lss x13 x12) fun a14_0 => 
    ifB a14_0
      (bd (iadrV 1 x0 x13) fun a18_5 => 
      bd (ldV H a18_5 1 false) fun a19_6 => 
      bd (iadrV 1 x1 x13) fun a22_9 => 
      bd (ldV H a22_9 1 false) fun a23_10 => 
      bd (binV .neq a19_6 a23_10) fun a24_11 => 
      ifB a24_11
        (Q .r [x0, x1, x2, x3, (.bool false), x13, x6, x7, x8, x9, x10, x11, x12, x13, a14_0, x13, x0, x13, a18_5, a19_6, x1, x13, a22_9, a23_10, a24_11, x25] H)
        (bd (binV .add x13 (.int .i64 1)) fun a25_13 => 
        Q .n [x0, x1, x2, x3, x4, x13, x6, x7, x8, x9, x10, x11, x12, a25_13, a14_0, x13, x0, x13, a18_5, a19_6, x1, x13, a22_9, a23_10, a24_11, a25_13] H))
      (Q (.e 0) [x0, x1, x2, x3, x4, x5, x6, x7, x8, x9, x10, x11, x12, x13, a14_0, x15, x16, x17, x18, x19, x20, x21, x22, x23, x24, x25] H)) := by kernel_rfl
def Sb36_0 (I : Nat → V → V → V → V → Heap → Prop) : Nat → List V → Heap → Prop := fun i ts H => ts.length = 26 ∧ I i (ts.getD 0 undefV) (ts.getD 1 undefV) (ts.getD 12 undefV) (ts.getD 13 undefV) H
@[simp] theorem Sb36_0_eq {I : Nat → V → V → V → V → Heap → Prop} {i : Nat} {x0 x1 x2 x3 x4 x5 x6 x7 x8 x9 x10 x11 x12 x13 x14 x15 x16 x17 x18 x19 x20 x21 x22 x23 x24 x25 : V} {H : Heap} : Sb36_0 I i [x0, x1, x2, x3, x4, x5, x6, x7, x8, x9, x10, x11, x12, x13, x14, x15, x16, x17, x18, x19, x20, x21, x22, x23, x24, x25] H = I i x0 x1 x12 x13 H := propext ⟨fun h => h.2, fun h => ⟨rfl, h⟩⟩
theorem ub36_0 {Q : Cont} (M : Nat) (I : Nat → V → V → V → V → Heap → Prop) (step : ∀ i, i ≤ M → ∀ (x0 x1 x12 x13 : V) (H : Heap), I i x0 x1 x12 x13 H → ∀ (x2 x3 x4 x5 x6 x7 x8 x9 x10 x11 x14 x15 x16 x17 x18 x19 x20 x21 x22 x23 x24 x25 : V), wp G b36_0 [x0, x1, x2, x3, x4, x5, x6, x7, x8, x9, x10, x11, x12, x13, x14, x15, x16, x17, x18, x19, x20, x21, x22, x23, x24, x25] H (upQ M (Sb36_0 I) i Q)) (i : Nat) (hi : i ≤ M) {x0 x1 x2 x3 x4 x5 x6 x7 x8 x9 x10 x11 x12 x13 x14 x15 x16 x17 x18 x19 x20 x21 x22 x23 x24 x25 : V} {H : Heap} (h : I i x0 x1 x12 x13 H) : Lp G b36_0 [x0, x1, x2, x3, x4, x5, x6, x7, x8, x9, x10, x11, x12, x13, x14, x15, x16, x17, x18, x19, x20, x21, x22, x23, x24, x25] H Q :=
  Lp.up (S := Sb36_0 I) (fun i ts H hi hS => (congrArg (fun t => wp G b36_0 t H (upQ M (Sb36_0 I) i Q)) (tabF_eq hS.1)).mpr (step i hi (ts.getD 0 undefV) (ts.getD 1 undefV) (ts.getD 12 undefV) (ts.getD 13 undefV) H hS.2 (ts.getD 2 undefV) (ts.getD 3 undefV) (ts.getD 4 undefV) (ts.getD 5 undefV) (ts.getD 6 undefV) (ts.getD 7 undefV) (ts.getD 8 undefV) (ts.getD 9 undefV) (ts.getD 10 undefV) (ts.getD 11 undefV) (ts.getD 14 undefV) (ts.getD 15 undefV) (ts.getD 16 undefV) (ts.getD 17 undefV) (ts.getD 18 undefV) (ts.getD 19 undefV) (ts.getD 20 undefV) (ts.getD 21 undefV) (ts.getD 22 undefV) (ts.getD 23 undefV) (ts.getD 24 undefV) (ts.getD 25 undefV))) _ i _ H rfl hi ⟨rfl, h⟩
theorem wr36_1 {x0 x1 x2 x3 x4 x5 x6 x7 x8 x9 x10 x11 x12 x13 x14 x15 x16 x17 x18 x19 x20 x21 x22 x23 x24 x25 : V} {H : Heap} {Q : Cont} : wp G r36_1 [x0, x1, x2, x3, x4, x5, x6, x7, x8, x9, x10, x11, x12, x13, x14, x15, x16, x17, x18, x19, x20, x21, x22, x23, x24, x25] H Q = (
    Q .r [x0, x1, x2, x3, (.bool true), x5, x6, x7, x8, x9, x10, x11, x12, x13, x14, x15, x16, x17, x18, x19, x20, x21, x22, x23, x24, x25] H) := by kernel_rfl
/-! 37: dowel/dowellaw49.sameTasks -/
theorem w37 {x0 x1 : V} {H : Heap} {k : V → Heap → Prop} : runW G i37 [x0, x1] H k = (
    bd (lensV x0) fun a7_2 => 
    bd (lensV x1) fun a9_4 => 
    bd (binV .neq a7_2 a9_4) fun a10_5 => 
    ifB a10_5
      (k (.bool false) H)
      (Lp G b37_0 (x0 :: x1 :: undefV :: undefV :: (.bool false) :: (.int .i64 0) :: x0 :: a7_2 :: x1 :: a9_4 :: a10_5 :: undefV :: undefV :: undefV :: undefV :: undefV :: undefV :: undefV :: undefV :: undefV :: undefV :: undefV :: undefV :: undefV :: undefV :: undefV :: undefV :: undefV :: undefV :: undefV :: undefV :: undefV :: undefV :: undefV :: undefV :: undefV :: undefV :: undefV :: undefV :: undefV :: undefV :: undefV :: undefV :: undefV :: undefV :: undefV :: undefV :: undefV :: undefV :: undefV :: undefV :: undefV :: undefV :: undefV :: undefV :: undefV :: undefV :: undefV :: undefV :: undefV :: undefV :: undefV :: undefV :: undefV :: undefV :: undefV :: undefV :: undefV :: []) H (blockQ 0 (seqQ G r37_1 (retQ i37 k))))) := by kernel_rfl
@[simp] theorem ret37 {x0 x1 x2 x3 x4 x5 x6 x7 x8 x9 x10 x11 x12 x13 x14 x15 x16 x17 x18 x19 x20 x21 x22 x23 x24 x25 x26 x27 x28 x29 x30 x31 x32 x33 x34 x35 x36 x37 x38 x39 x40 x41 x42 x43 x44 x45 x46 x47 x48 x49 x50 x51 x52 x53 x54 x55 x56 x57 x58 x59 x60 x61 x62 x63 x64 x65 x66 x67 : V} {H : Heap} {k : V → Heap → Prop} : retQ i37 k .r (x0 :: x1 :: x2 :: x3 :: x4 :: x5 :: x6 :: x7 :: x8 :: x9 :: x10 :: x11 :: x12 :: x13 :: x14 :: x15 :: x16 :: x17 :: x18 :: x19 :: x20 :: x21 :: x22 :: x23 :: x24 :: x25 :: x26 :: x27 :: x28 :: x29 :: x30 :: x31 :: x32 :: x33 :: x34 :: x35 :: x36 :: x37 :: x38 :: x39 :: x40 :: x41 :: x42 :: x43 :: x44 :: x45 :: x46 :: x47 :: x48 :: x49 :: x50 :: x51 :: x52 :: x53 :: x54 :: x55 :: x56 :: x57 :: x58 :: x59 :: x60 :: x61 :: x62 :: x63 :: x64 :: x65 :: x66 :: x67 :: []) H = k x4 H := nrfl
@[simp] theorem ret37n {x0 x1 x2 x3 x4 x5 x6 x7 x8 x9 x10 x11 x12 x13 x14 x15 x16 x17 x18 x19 x20 x21 x22 x23 x24 x25 x26 x27 x28 x29 x30 x31 x32 x33 x34 x35 x36 x37 x38 x39 x40 x41 x42 x43 x44 x45 x46 x47 x48 x49 x50 x51 x52 x53 x54 x55 x56 x57 x58 x59 x60 x61 x62 x63 x64 x65 x66 x67 : V} {H : Heap} {k : V → Heap → Prop} : retQ i37 k .n (x0 :: x1 :: x2 :: x3 :: x4 :: x5 :: x6 :: x7 :: x8 :: x9 :: x10 :: x11 :: x12 :: x13 :: x14 :: x15 :: x16 :: x17 :: x18 :: x19 :: x20 :: x21 :: x22 :: x23 :: x24 :: x25 :: x26 :: x27 :: x28 :: x29 :: x30 :: x31 :: x32 :: x33 :: x34 :: x35 :: x36 :: x37 :: x38 :: x39 :: x40 :: x41 :: x42 :: x43 :: x44 :: x45 :: x46 :: x47 :: x48 :: x49 :: x50 :: x51 :: x52 :: x53 :: x54 :: x55 :: x56 :: x57 :: x58 :: x59 :: x60 :: x61 :: x62 :: x63 :: x64 :: x65 :: x66 :: x67 :: []) H = k x4 H := nrfl
theorem wb37_0 {x0 x1 x2 x3 x4 x5 x6 x7 x8 x9 x10 x11 x12 x13 x14 x15 x16 x17 x18 x19 x20 x21 x22 x23 x24 x25 x26 x27 x28 x29 x30 x31 x32 x33 x34 x35 x36 x37 x38 x39 x40 x41 x42 x43 x44 x45 x46 x47 x48 x49 x50 x51 x52 x53 x54 x55 x56 x57 x58 x59 x60 x61 x62 x63 x64 x65 x66 x67 : V} {H : Heap} {Q : Cont} : wp G b37_0 (x0 :: x1 :: x2 :: x3 :: x4 :: x5 :: x6 :: x7 :: x8 :: x9 :: x10 :: x11 :: x12 :: x13 :: x14 :: x15 :: x16 :: x17 :: x18 :: x19 :: x20 :: x21 :: x22 :: x23 :: x24 :: x25 :: x26 :: x27 :: x28 :: x29 :: x30 :: x31 :: x32 :: x33 :: x34 :: x35 :: x36 :: x37 :: x38 :: x39 :: x40 :: x41 :: x42 :: x43 :: x44 :: x45 :: x46 :: x47 :: x48 :: x49 :: x50 :: x51 :: x52 :: x53 :: x54 :: x55 :: x56 :: x57 :: x58 :: x59 :: x60 :: x61 :: x62 :: x63 :: x64 :: x65 :: x66 :: x67 :: []) H Q = (
    bd (lensV x0) fun a13_2 => 
    bd (binV .lss x5 a13_2) fun a14_3 => 
    ifB a14_3
      (bd (iadrV 4 x0 x5) fun a19_6 => 
      bd (fadrV 0 a19_6) fun a20_7 => 
      bd (ldV H a20_7 1 false) fun a21_8 => 
      bd (iadrV 4 x1 x5) fun a24_11 => 
      bd (fadrV 0 a24_11) fun a25_12 => 
      bd (ldV H a25_12 1 false) fun a26_13 => 
      bd (binV .neq a21_8 a26_13) fun a27_14 => 
      wpg (gdV a27_14 false) H (fun k => k x0 H) fun a29_16 ha29_16 => 
      wpg (gdV a27_14 false) ha29_16 (fun k => k x5 ha29_16) fun a30_17 ha30_17 => 
      wpg (gdV a27_14 false) ha30_17 (fun k => bd (iadrV 4 a29_16 a30_17) fun a31_18i => k a31_18i ha30_17) fun a31_18 ha31_18 => 
      wpg (gdV a27_14 false) ha31_18 (fun k => bd (fadrV 1 a31_18) fun a32_19i => k a32_19i ha31_18) fun a32_19 ha32_19 => 
      wpg (gdV a27_14 false) ha32_19 (fun k => bd (ldV ha32_19 a32_19 1 false) fun a33_20i => k a33_20i ha32_19) fun a33_20 ha33_20 => 
      wpg (gdV a27_14 false) ha33_20 (fun k => k x1 ha33_20) fun a34_21 ha34_21 => 
      wpg (gdV a27_14 false) ha34_21 (fun k => k x5 ha34_21) fun a35_22 ha35_22 => 
      wpg (gdV a27_14 false) ha35_22 (fun k => bd (iadrV 4 a34_21 a35_22) fun a36_23i => k a36_23i ha35_22) fun a36_23 ha36_23 => 
      wpg (gdV a27_14 false) ha36_23 (fun k => bd (fadrV 1 a36_23) fun a37_24i => k a37_24i ha36_23) fun a37_24 ha37_24 => 
      wpg (gdV a27_14 false) ha37_24 (fun k => bd (ldV ha37_24 a37_24 1 false) fun a38_25i => k a38_25i ha37_24) fun a38_25 ha38_25 => 
      wpg (gdV a27_14 false) ha38_25 (fun k => bd (binV .neq a33_20 a38_25) fun a39_26i => k a39_26i ha38_25) fun a39_26 ha39_26 => 
      bd (pickV a27_14 (.bool true) a39_26) fun a40_27 => 
      wpg (gdV a40_27 false) ha39_26 (fun k => k x0 ha39_26) fun a42_29 ha42_29 => 
      wpg (gdV a40_27 false) ha42_29 (fun k => k x5 ha42_29) fun a43_30 ha43_30 => 
      wpg (gdV a40_27 false) ha43_30 (fun k => bd (iadrV 4 a42_29 a43_30) fun a44_31i => k a44_31i ha43_30) fun a44_31 ha44_31 => 
      wpg (gdV a40_27 false) ha44_31 (fun k => bd (fadrV 2 a44_31) fun a45_32i => k a45_32i ha44_31) fun a45_32 ha45_32 => 
      wpg (gdV a40_27 false) ha45_32 (fun k => bd (ldV ha45_32 a45_32 1 false) fun a46_33i => k a46_33i ha45_32) fun a46_33 ha46_33 => 
      wpg (gdV a40_27 false) ha46_33 (fun k => k x1 ha46_33) fun a47_34 ha47_34 => 
      wpg (gdV a40_27 false) ha47_34 (fun k => k x5 ha47_34) fun a48_35 ha48_35 => 
      wpg (gdV a40_27 false) ha48_35 (fun k => bd (iadrV 4 a47_34 a48_35) fun a49_36i => k a49_36i ha48_35) fun a49_36 ha49_36 => 
      wpg (gdV a40_27 false) ha49_36 (fun k => bd (fadrV 2 a49_36) fun a50_37i => k a50_37i ha49_36) fun a50_37 ha50_37 => 
      wpg (gdV a40_27 false) ha50_37 (fun k => bd (ldV ha50_37 a50_37 1 false) fun a51_38i => k a51_38i ha50_37) fun a51_38 ha51_38 => 
      wpg (gdV a40_27 false) ha51_38 (fun k => bd (binV .neq a46_33 a51_38) fun a52_39i => k a52_39i ha51_38) fun a52_39 ha52_39 => 
      bd (pickV a40_27 (.bool true) a52_39) fun a53_40 => 
      wpg (gdV a53_40 false) ha52_39 (fun k => k x0 ha52_39) fun a55_42 ha55_42 => 
      wpg (gdV a53_40 false) ha55_42 (fun k => k x5 ha55_42) fun a56_43 ha56_43 => 
      wpg (gdV a53_40 false) ha56_43 (fun k => bd (iadrV 4 a55_42 a56_43) fun a57_44i => k a57_44i ha56_43) fun a57_44 ha57_44 => 
      wpg (gdV a53_40 false) ha57_44 (fun k => bd (fadrV 3 a57_44) fun a58_45i => k a58_45i ha57_44) fun a58_45 ha58_45 => 
      wpg (gdV a53_40 false) ha58_45 (fun k => bd (ldV ha58_45 a58_45 1 false) fun a59_46i => k a59_46i ha58_45) fun a59_46 ha59_46 => 
      wpg (gdV a53_40 false) ha59_46 (fun k => k x1 ha59_46) fun a60_47 ha60_47 => 
      wpg (gdV a53_40 false) ha60_47 (fun k => k x5 ha60_47) fun a61_48 ha61_48 => 
      wpg (gdV a53_40 false) ha61_48 (fun k => bd (iadrV 4 a60_47 a61_48) fun a62_49i => k a62_49i ha61_48) fun a62_49 ha62_49 => 
      wpg (gdV a53_40 false) ha62_49 (fun k => bd (fadrV 3 a62_49) fun a63_50i => k a63_50i ha62_49) fun a63_50 ha63_50 => 
      wpg (gdV a53_40 false) ha63_50 (fun k => bd (ldV ha63_50 a63_50 1 false) fun a64_51i => k a64_51i ha63_50) fun a64_51 ha64_51 => 
      wpg (gdV a53_40 false) ha64_51 (fun k => (true || G.pur 19) = true ∧ Cl G 19 [a59_46, a64_51] ha64_51 fun a65_52i ha65_52i => k a65_52i ha65_52i) fun a65_52 ha65_52 => 
      wpg (gdV a53_40 false) ha65_52 (fun k => bd (unV .not a65_52) fun a66_53i => k a66_53i ha65_52) fun a66_53 ha66_53 => 
      bd (pickV a53_40 (.bool true) a66_53) fun a67_54 => 
      ifB a67_54
        (Q .r (x0 :: x1 :: x2 :: x3 :: (.bool false) :: x5 :: x6 :: x7 :: x8 :: x9 :: x10 :: x5 :: x0 :: a13_2 :: a14_3 :: x15 :: x16 :: x0 :: x5 :: a19_6 :: a20_7 :: a21_8 :: x1 :: x5 :: a24_11 :: a25_12 :: a26_13 :: a27_14 :: a27_14 :: a29_16 :: a30_17 :: a31_18 :: a32_19 :: a33_20 :: a34_21 :: a35_22 :: a36_23 :: a37_24 :: a38_25 :: a39_26 :: a40_27 :: a40_27 :: a42_29 :: a43_30 :: a44_31 :: a45_32 :: a46_33 :: a47_34 :: a48_35 :: a49_36 :: a50_37 :: a51_38 :: a52_39 :: a53_40 :: a53_40 :: a55_42 :: a56_43 :: a57_44 :: a58_45 :: a59_46 :: a60_47 :: a61_48 :: a62_49 :: a63_50 :: a64_51 :: a65_52 :: a66_53 :: a67_54 :: []) ha66_53)
        (bd (binV .add x5 (.int .i64 1)) fun a16_57 => 
        Q .n (x0 :: x1 :: x2 :: x3 :: x4 :: a16_57 :: x6 :: x7 :: x8 :: x9 :: x10 :: x5 :: x0 :: a13_2 :: a14_3 :: x5 :: a16_57 :: x0 :: x5 :: a19_6 :: a20_7 :: a21_8 :: x1 :: x5 :: a24_11 :: a25_12 :: a26_13 :: a27_14 :: a27_14 :: a29_16 :: a30_17 :: a31_18 :: a32_19 :: a33_20 :: a34_21 :: a35_22 :: a36_23 :: a37_24 :: a38_25 :: a39_26 :: a40_27 :: a40_27 :: a42_29 :: a43_30 :: a44_31 :: a45_32 :: a46_33 :: a47_34 :: a48_35 :: a49_36 :: a50_37 :: a51_38 :: a52_39 :: a53_40 :: a53_40 :: a55_42 :: a56_43 :: a57_44 :: a58_45 :: a59_46 :: a60_47 :: a61_48 :: a62_49 :: a63_50 :: a64_51 :: a65_52 :: a66_53 :: a67_54 :: []) ha66_53))
      (Q (.e 0) (x0 :: x1 :: x2 :: x3 :: x4 :: x5 :: x6 :: x7 :: x8 :: x9 :: x10 :: x5 :: x0 :: a13_2 :: a14_3 :: x15 :: x16 :: x17 :: x18 :: x19 :: x20 :: x21 :: x22 :: x23 :: x24 :: x25 :: x26 :: x27 :: x28 :: x29 :: x30 :: x31 :: x32 :: x33 :: x34 :: x35 :: x36 :: x37 :: x38 :: x39 :: x40 :: x41 :: x42 :: x43 :: x44 :: x45 :: x46 :: x47 :: x48 :: x49 :: x50 :: x51 :: x52 :: x53 :: x54 :: x55 :: x56 :: x57 :: x58 :: x59 :: x60 :: x61 :: x62 :: x63 :: x64 :: x65 :: x66 :: x67 :: []) H)) := by kernel_rfl
def Sb37_0 (I : Nat → V → V → V → Heap → Prop) : Nat → List V → Heap → Prop := fun i ts H => ts.length = 68 ∧ I i (ts.getD 0 undefV) (ts.getD 1 undefV) (ts.getD 5 undefV) H
@[simp] theorem Sb37_0_eq {I : Nat → V → V → V → Heap → Prop} {i : Nat} {x0 x1 x2 x3 x4 x5 x6 x7 x8 x9 x10 x11 x12 x13 x14 x15 x16 x17 x18 x19 x20 x21 x22 x23 x24 x25 x26 x27 x28 x29 x30 x31 x32 x33 x34 x35 x36 x37 x38 x39 x40 x41 x42 x43 x44 x45 x46 x47 x48 x49 x50 x51 x52 x53 x54 x55 x56 x57 x58 x59 x60 x61 x62 x63 x64 x65 x66 x67 : V} {H : Heap} : Sb37_0 I i (x0 :: x1 :: x2 :: x3 :: x4 :: x5 :: x6 :: x7 :: x8 :: x9 :: x10 :: x11 :: x12 :: x13 :: x14 :: x15 :: x16 :: x17 :: x18 :: x19 :: x20 :: x21 :: x22 :: x23 :: x24 :: x25 :: x26 :: x27 :: x28 :: x29 :: x30 :: x31 :: x32 :: x33 :: x34 :: x35 :: x36 :: x37 :: x38 :: x39 :: x40 :: x41 :: x42 :: x43 :: x44 :: x45 :: x46 :: x47 :: x48 :: x49 :: x50 :: x51 :: x52 :: x53 :: x54 :: x55 :: x56 :: x57 :: x58 :: x59 :: x60 :: x61 :: x62 :: x63 :: x64 :: x65 :: x66 :: x67 :: []) H = I i x0 x1 x5 H := propext ⟨fun h => h.2, fun h => ⟨rfl, h⟩⟩
theorem ub37_0 {Q : Cont} (M : Nat) (I : Nat → V → V → V → Heap → Prop) (step : ∀ i, i ≤ M → ∀ (x0 x1 x5 : V) (H : Heap), I i x0 x1 x5 H → ∀ (x2 x3 x4 x6 x7 x8 x9 x10 x11 x12 x13 x14 x15 x16 x17 x18 x19 x20 x21 x22 x23 x24 x25 x26 x27 x28 x29 x30 x31 x32 x33 x34 x35 x36 x37 x38 x39 x40 x41 x42 x43 x44 x45 x46 x47 x48 x49 x50 x51 x52 x53 x54 x55 x56 x57 x58 x59 x60 x61 x62 x63 x64 x65 x66 x67 : V), wp G b37_0 (x0 :: x1 :: x2 :: x3 :: x4 :: x5 :: x6 :: x7 :: x8 :: x9 :: x10 :: x11 :: x12 :: x13 :: x14 :: x15 :: x16 :: x17 :: x18 :: x19 :: x20 :: x21 :: x22 :: x23 :: x24 :: x25 :: x26 :: x27 :: x28 :: x29 :: x30 :: x31 :: x32 :: x33 :: x34 :: x35 :: x36 :: x37 :: x38 :: x39 :: x40 :: x41 :: x42 :: x43 :: x44 :: x45 :: x46 :: x47 :: x48 :: x49 :: x50 :: x51 :: x52 :: x53 :: x54 :: x55 :: x56 :: x57 :: x58 :: x59 :: x60 :: x61 :: x62 :: x63 :: x64 :: x65 :: x66 :: x67 :: []) H (upQ M (Sb37_0 I) i Q)) (i : Nat) (hi : i ≤ M) {x0 x1 x2 x3 x4 x5 x6 x7 x8 x9 x10 x11 x12 x13 x14 x15 x16 x17 x18 x19 x20 x21 x22 x23 x24 x25 x26 x27 x28 x29 x30 x31 x32 x33 x34 x35 x36 x37 x38 x39 x40 x41 x42 x43 x44 x45 x46 x47 x48 x49 x50 x51 x52 x53 x54 x55 x56 x57 x58 x59 x60 x61 x62 x63 x64 x65 x66 x67 : V} {H : Heap} (h : I i x0 x1 x5 H) : Lp G b37_0 (x0 :: x1 :: x2 :: x3 :: x4 :: x5 :: x6 :: x7 :: x8 :: x9 :: x10 :: x11 :: x12 :: x13 :: x14 :: x15 :: x16 :: x17 :: x18 :: x19 :: x20 :: x21 :: x22 :: x23 :: x24 :: x25 :: x26 :: x27 :: x28 :: x29 :: x30 :: x31 :: x32 :: x33 :: x34 :: x35 :: x36 :: x37 :: x38 :: x39 :: x40 :: x41 :: x42 :: x43 :: x44 :: x45 :: x46 :: x47 :: x48 :: x49 :: x50 :: x51 :: x52 :: x53 :: x54 :: x55 :: x56 :: x57 :: x58 :: x59 :: x60 :: x61 :: x62 :: x63 :: x64 :: x65 :: x66 :: x67 :: []) H Q :=
  Lp.up (S := Sb37_0 I) (fun i ts H hi hS => (congrArg (fun t => wp G b37_0 t H (upQ M (Sb37_0 I) i Q)) (tabF_eq hS.1)).mpr (step i hi (ts.getD 0 undefV) (ts.getD 1 undefV) (ts.getD 5 undefV) H hS.2 (ts.getD 2 undefV) (ts.getD 3 undefV) (ts.getD 4 undefV) (ts.getD 6 undefV) (ts.getD 7 undefV) (ts.getD 8 undefV) (ts.getD 9 undefV) (ts.getD 10 undefV) (ts.getD 11 undefV) (ts.getD 12 undefV) (ts.getD 13 undefV) (ts.getD 14 undefV) (ts.getD 15 undefV) (ts.getD 16 undefV) (ts.getD 17 undefV) (ts.getD 18 undefV) (ts.getD 19 undefV) (ts.getD 20 undefV) (ts.getD 21 undefV) (ts.getD 22 undefV) (ts.getD 23 undefV) (ts.getD 24 undefV) (ts.getD 25 undefV) (ts.getD 26 undefV) (ts.getD 27 undefV) (ts.getD 28 undefV) (ts.getD 29 undefV) (ts.getD 30 undefV) (ts.getD 31 undefV) (ts.getD 32 undefV) (ts.getD 33 undefV) (ts.getD 34 undefV) (ts.getD 35 undefV) (ts.getD 36 undefV) (ts.getD 37 undefV) (ts.getD 38 undefV) (ts.getD 39 undefV) (ts.getD 40 undefV) (ts.getD 41 undefV) (ts.getD 42 undefV) (ts.getD 43 undefV) (ts.getD 44 undefV) (ts.getD 45 undefV) (ts.getD 46 undefV) (ts.getD 47 undefV) (ts.getD 48 undefV) (ts.getD 49 undefV) (ts.getD 50 undefV) (ts.getD 51 undefV) (ts.getD 52 undefV) (ts.getD 53 undefV) (ts.getD 54 undefV) (ts.getD 55 undefV) (ts.getD 56 undefV) (ts.getD 57 undefV) (ts.getD 58 undefV) (ts.getD 59 undefV) (ts.getD 60 undefV) (ts.getD 61 undefV) (ts.getD 62 undefV) (ts.getD 63 undefV) (ts.getD 64 undefV) (ts.getD 65 undefV) (ts.getD 66 undefV) (ts.getD 67 undefV))) _ i _ H rfl hi ⟨rfl, h⟩
theorem wr37_1 {x0 x1 x2 x3 x4 x5 x6 x7 x8 x9 x10 x11 x12 x13 x14 x15 x16 x17 x18 x19 x20 x21 x22 x23 x24 x25 x26 x27 x28 x29 x30 x31 x32 x33 x34 x35 x36 x37 x38 x39 x40 x41 x42 x43 x44 x45 x46 x47 x48 x49 x50 x51 x52 x53 x54 x55 x56 x57 x58 x59 x60 x61 x62 x63 x64 x65 x66 x67 : V} {H : Heap} {Q : Cont} : wp G r37_1 (x0 :: x1 :: x2 :: x3 :: x4 :: x5 :: x6 :: x7 :: x8 :: x9 :: x10 :: x11 :: x12 :: x13 :: x14 :: x15 :: x16 :: x17 :: x18 :: x19 :: x20 :: x21 :: x22 :: x23 :: x24 :: x25 :: x26 :: x27 :: x28 :: x29 :: x30 :: x31 :: x32 :: x33 :: x34 :: x35 :: x36 :: x37 :: x38 :: x39 :: x40 :: x41 :: x42 :: x43 :: x44 :: x45 :: x46 :: x47 :: x48 :: x49 :: x50 :: x51 :: x52 :: x53 :: x54 :: x55 :: x56 :: x57 :: x58 :: x59 :: x60 :: x61 :: x62 :: x63 :: x64 :: x65 :: x66 :: x67 :: []) H Q = (
    Q .r (x0 :: x1 :: x2 :: x3 :: (.bool true) :: x5 :: x6 :: x7 :: x8 :: x9 :: x10 :: x11 :: x12 :: x13 :: x14 :: x15 :: x16 :: x17 :: x18 :: x19 :: x20 :: x21 :: x22 :: x23 :: x24 :: x25 :: x26 :: x27 :: x28 :: x29 :: x30 :: x31 :: x32 :: x33 :: x34 :: x35 :: x36 :: x37 :: x38 :: x39 :: x40 :: x41 :: x42 :: x43 :: x44 :: x45 :: x46 :: x47 :: x48 :: x49 :: x50 :: x51 :: x52 :: x53 :: x54 :: x55 :: x56 :: x57 :: x58 :: x59 :: x60 :: x61 :: x62 :: x63 :: x64 :: x65 :: x66 :: x67 :: []) H) := by kernel_rfl
/-! 45: slices.Contains[[]int,int] -/
theorem w45 {x0 x1 : V} {H : Heap} {k : V → Heap → Prop} : runW G i45 [x0, x1] H k = (
    (true || G.pur 64) = true ∧ Cl G 64 [x0, x1] H fun a7_3 ha7_3 => 
    bd (binV .geq a7_3 (.int .i64 0)) fun a8_4 => 
    k a8_4 ha7_3) := by kernel_rfl
@[simp] theorem ret45 {x0 x1 x2 x3 x4 x5 x6 x7 x8 : V} {H : Heap} {k : V → Heap → Prop} : retQ i45 k .r [x0, x1, x2, x3, x4, x5, x6, x7, x8] H = k x4 H := nrfl
@[simp] theorem ret45n {x0 x1 x2 x3 x4 x5 x6 x7 x8 : V} {H : Heap} {k : V → Heap → Prop} : retQ i45 k .n [x0, x1, x2, x3, x4, x5, x6, x7, x8] H = k x4 H := nrfl
/-! 49: dowel/task.Reduce$1 -/
theorem w49 {x0 x1 x2 : V} {H : Heap} {k : V → Heap → Prop} : runW G i49 [x0, x1, x2] H k = (
    bd (boxV x0) fun a3_0b => newB H a3_0b fun a3_0 ha3_0 => 
    bd (fadrV 3 x1) fun a5_2 => 
    bd (ldV ha3_0 a5_2 1 false) fun a6_3 => 
    (true || G.pur 50) = true ∧ Cl G 50 [a6_3, (.fn 51 [x2, a3_0])] ha3_0 fun a8_5 ha8_5 => 
    k a8_5 ha8_5) := by kernel_rfl
@[simp] theorem ret49 {x0 x1 x2 x3 x4 x5 x6 x7 x8 : V} {H : Heap} {k : V → Heap → Prop} : retQ i49 k .r [x0, x1, x2, x3, x4, x5, x6, x7, x8] H = k x4 H := nrfl
@[simp] theorem ret49n {x0 x1 x2 x3 x4 x5 x6 x7 x8 : V} {H : Heap} {k : V → Heap → Prop} : retQ i49 k .n [x0, x1, x2, x3, x4, x5, x6, x7, x8] H = k x4 H := nrfl
/-! 50: slices.ContainsFunc[[]int,int] -/
theorem w50 {x0 x1 : V} {H : Heap} {k : V → Heap → Prop} : runW G i50 [x0, x1] H k = (
    (true || G.pur 65) = true ∧ Cl G 65 [x0, x1] H fun a7_3 ha7_3 => 
    bd (binV .geq a7_3 (.int .i64 0)) fun a8_4 => 
    k a8_4 ha7_3) := by kernel_rfl
@[simp] theorem ret50 {x0 x1 x2 x3 x4 x5 x6 x7 x8 : V} {H : Heap} {k : V → Heap → Prop} : retQ i50 k .r [x0, x1, x2, x3, x4, x5, x6, x7, x8] H = k x4 H := nrfl
@[simp] theorem ret50n {x0 x1 x2 x3 x4 x5 x6 x7 x8 : V} {H : Heap} {k : V → Heap → Prop} : retQ i50 k .n [x0, x1, x2, x3, x4, x5, x6, x7, x8] H = k x4 H := nrfl
/-! 51: dowel/task.Reduce$1$1 -/
theorem w51 {x0 x1 x2 : V} {H : Heap} {k : V → Heap → Prop} : runW G i51 [x0, x1, x2] H k = (
    bd (ldV H x1 1 false) fun a5_1 => 
    bd (iadrV 1 a5_1 x0) fun a7_3 => 
    bd (ldV H a7_3 1 false) fun a8_4 => 
    bd (ldV H x2 1 false) fun a9_5 => 
    bd (iadrV 1 a8_4 a9_5) fun a10_6 => 
    bd (ldV H a10_6 1 false) fun a11_7 => 
    k a11_7 H) := by kernel_rfl
@[simp] theorem ret51 {x0 x1 x2 x3 x4 x5 x6 x7 x8 x9 x10 x11 : V} {H : Heap} {k : V → Heap → Prop} : retQ i51 k .r [x0, x1, x2, x3, x4, x5, x6, x7, x8, x9, x10, x11] H = k x4 H := nrfl
@[simp] theorem ret51n {x0 x1 x2 x3 x4 x5 x6 x7 x8 x9 x10 x11 : V} {H : Heap} {k : V → Heap → Prop} : retQ i51 k .n [x0, x1, x2, x3, x4, x5, x6, x7, x8, x9, x10, x11] H = k x4 H := nrfl
/-! 54: dowel/task.Load$1 -/
theorem w54 {x0 x1 : V} {H : Heap} {k : V → Heap → Prop} : runW G i54 [x0, x1] H k = (
    bd (ldV H x1 1 false) fun a4_1 => 
    (true || G.pur 45) = true ∧ Cl G 45 [a4_1, x0] H fun a6_3 ha6_3 => 
    bd (unV .not a6_3) fun a7_4 => 
    k a7_4 ha6_3) := by kernel_rfl
@[simp] theorem ret54 {x0 x1 x2 x3 x4 x5 x6 x7 : V} {H : Heap} {k : V → Heap → Prop} : retQ i54 k .r [x0, x1, x2, x3, x4, x5, x6, x7] H = k x3 H := nrfl
@[simp] theorem ret54n {x0 x1 x2 x3 x4 x5 x6 x7 : V} {H : Heap} {k : V → Heap → Prop} : retQ i54 k .n [x0, x1, x2, x3, x4, x5, x6, x7] H = k x3 H := nrfl
/-! 55: dowel/dowellaw49.tool -/
theorem w55 {x0 x1 : V} {H : Heap} {k : V → Heap → Prop} : runW G i55 [x0, x1] H k = (
    bd (bxrV x0) fun a2_0 => 
    Lp G b55_0 [x0, x1, a2_0, undefV, (.bool false), (.int .i64 0), undefV, undefV, undefV, undefV, undefV, undefV, undefV, undefV, undefV, undefV, undefV, undefV, undefV, undefV, undefV, undefV] H (blockQ 0 (seqQ G r55_1 (retQ i55 k)))) := by kernel_rfl
@[simp] theorem ret55 {x0 x1 x2 x3 x4 x5 x6 x7 x8 x9 x10 x11 x12 x13 x14 x15 x16 x17 x18 x19 x20 x21 : V} {H : Heap} {k : V → Heap → Prop} : retQ i55 k .r [x0, x1, x2, x3, x4, x5, x6, x7, x8, x9, x10, x11, x12, x13, x14, x15, x16, x17, x18, x19, x20, x21] H = k x4 H := nrfl
@[simp] theorem ret55n {x0 x1 x2 x3 x4 x5 x6 x7 x8 x9 x10 x11 x12 x13 x14 x15 x16 x17 x18 x19 x20 x21 : V} {H : Heap} {k : V → Heap → Prop} : retQ i55 k .n [x0, x1, x2, x3, x4, x5, x6, x7, x8, x9, x10, x11, x12, x13, x14, x15, x16, x17, x18, x19, x20, x21] H = k x4 H := nrfl
theorem wb55_0 {x0 x1 x2 x3 x4 x5 x6 x7 x8 x9 x10 x11 x12 x13 x14 x15 x16 x17 x18 x19 x20 x21 : V} {H : Heap} {Q : Cont} : wp G b55_0 [x0, x1, x2, x3, x4, x5, x6, x7, x8, x9, x10, x11, x12, x13, x14, x15, x16, x17, x18, x19, x20, x21] H Q = (
    bd (fadrV 1 x2) fun a7_1 => 
    bd (ldV H a7_1 1 false) fun a8_2 => 
    bd (lensV a8_2) fun a9_3 => 
    bd (binV .lss x5 a9_3) fun a10_4 => 
    ifB a10_4
      (bd (fadrV 1 x2) fun a13_5 => 
      bd (ldV H a13_5 1 false) fun a14_6 => 
      bd (iadrV 1 a14_6 x5) fun a16_8 => 
      bd (ldV H a16_8 1 false) fun a17_9 => 
      bd (binV .eql a17_9 x1) fun a19_11 => 
      ifB a19_11
        (Q .r [x0, x1, x2, x3, (.bool true), x5, x5, a7_1, a8_2, a9_3, a10_4, x11, x12, a13_5, a14_6, x5, a16_8, a17_9, x1, a19_11, x20, x21] H)
        (bd (binV .add x5 (.int .i64 1)) fun a12_14 => 
        Q .n [x0, x1, x2, x3, x4, a12_14, x5, a7_1, a8_2, a9_3, a10_4, x5, a12_14, a13_5, a14_6, x5, a16_8, a17_9, x1, a19_11, x20, x21] H))
      (Q (.e 0) [x0, x1, x2, x3, x4, x5, x5, a7_1, a8_2, a9_3, a10_4, x11, x12, x13, x14, x15, x16, x17, x18, x19, x20, x21] H)) := by kernel_rfl
def Sb55_0 (I : Nat → V → V → V → Heap → Prop) : Nat → List V → Heap → Prop := fun i ts H => ts.length = 22 ∧ I i (ts.getD 1 undefV) (ts.getD 2 undefV) (ts.getD 5 undefV) H
@[simp] theorem Sb55_0_eq {I : Nat → V → V → V → Heap → Prop} {i : Nat} {x0 x1 x2 x3 x4 x5 x6 x7 x8 x9 x10 x11 x12 x13 x14 x15 x16 x17 x18 x19 x20 x21 : V} {H : Heap} : Sb55_0 I i [x0, x1, x2, x3, x4, x5, x6, x7, x8, x9, x10, x11, x12, x13, x14, x15, x16, x17, x18, x19, x20, x21] H = I i x1 x2 x5 H := propext ⟨fun h => h.2, fun h => ⟨rfl, h⟩⟩
theorem ub55_0 {Q : Cont} (M : Nat) (I : Nat → V → V → V → Heap → Prop) (step : ∀ i, i ≤ M → ∀ (x1 x2 x5 : V) (H : Heap), I i x1 x2 x5 H → ∀ (x0 x3 x4 x6 x7 x8 x9 x10 x11 x12 x13 x14 x15 x16 x17 x18 x19 x20 x21 : V), wp G b55_0 [x0, x1, x2, x3, x4, x5, x6, x7, x8, x9, x10, x11, x12, x13, x14, x15, x16, x17, x18, x19, x20, x21] H (upQ M (Sb55_0 I) i Q)) (i : Nat) (hi : i ≤ M) {x0 x1 x2 x3 x4 x5 x6 x7 x8 x9 x10 x11 x12 x13 x14 x15 x16 x17 x18 x19 x20 x21 : V} {H : Heap} (h : I i x1 x2 x5 H) : Lp G b55_0 [x0, x1, x2, x3, x4, x5, x6, x7, x8, x9, x10, x11, x12, x13, x14, x15, x16, x17, x18, x19, x20, x21] H Q :=
  Lp.up (S := Sb55_0 I) (fun i ts H hi hS => (congrArg (fun t => wp G b55_0 t H (upQ M (Sb55_0 I) i Q)) (tabF_eq hS.1)).mpr (step i hi (ts.getD 1 undefV) (ts.getD 2 undefV) (ts.getD 5 undefV) H hS.2 (ts.getD 0 undefV) (ts.getD 3 undefV) (ts.getD 4 undefV) (ts.getD 6 undefV) (ts.getD 7 undefV) (ts.getD 8 undefV) (ts.getD 9 undefV) (ts.getD 10 undefV) (ts.getD 11 undefV) (ts.getD 12 undefV) (ts.getD 13 undefV) (ts.getD 14 undefV) (ts.getD 15 undefV) (ts.getD 16 undefV) (ts.getD 17 undefV) (ts.getD 18 undefV) (ts.getD 19 undefV) (ts.getD 20 undefV) (ts.getD 21 undefV))) _ i _ H rfl hi ⟨rfl, h⟩
theorem wr55_1 {x0 x1 x2 x3 x4 x5 x6 x7 x8 x9 x10 x11 x12 x13 x14 x15 x16 x17 x18 x19 x20 x21 : V} {H : Heap} {Q : Cont} : wp G r55_1 [x0, x1, x2, x3, x4, x5, x6, x7, x8, x9, x10, x11, x12, x13, x14, x15, x16, x17, x18, x19, x20, x21] H Q = (
    bd (binV .eql x1 (.str [])) fun a21_1 => 
    Q .r [x0, x1, x2, x3, a21_1, x5, x6, x7, x8, x9, x10, x11, x12, x13, x14, x15, x16, x17, x18, x19, x1, a21_1] H) := by kernel_rfl
/-! 59: dowel/dowellaw49.name -/
theorem w59 {x0 : V} {H : Heap} {k : V → Heap → Prop} : runW G i59 [x0] H k = (
    Lp G b59_0 [x0, undefV, (.bool false), (.int .i64 0), undefV, undefV, undefV, undefV, undefV, undefV, undefV, undefV, undefV, undefV, undefV, undefV, undefV, undefV, undefV, undefV, undefV, undefV, undefV, undefV, undefV, undefV, undefV, undefV] H (blockQ 0 (seqQ G r59_1 (retQ i59 k)))) := by kernel_rfl
@[simp] theorem ret59 {x0 x1 x2 x3 x4 x5 x6 x7 x8 x9 x10 x11 x12 x13 x14 x15 x16 x17 x18 x19 x20 x21 x22 x23 x24 x25 x26 x27 : V} {H : Heap} {k : V → Heap → Prop} : retQ i59 k .r [x0, x1, x2, x3, x4, x5, x6, x7, x8, x9, x10, x11, x12, x13, x14, x15, x16, x17, x18, x19, x20, x21, x22, x23, x24, x25, x26, x27] H = k x2 H := nrfl
@[simp] theorem ret59n {x0 x1 x2 x3 x4 x5 x6 x7 x8 x9 x10 x11 x12 x13 x14 x15 x16 x17 x18 x19 x20 x21 x22 x23 x24 x25 x26 x27 : V} {H : Heap} {k : V → Heap → Prop} : retQ i59 k .n [x0, x1, x2, x3, x4, x5, x6, x7, x8, x9, x10, x11, x12, x13, x14, x15, x16, x17, x18, x19, x20, x21, x22, x23, x24, x25, x26, x27] H = k x2 H := nrfl
theorem wb59_0 {x0 x1 x2 x3 x4 x5 x6 x7 x8 x9 x10 x11 x12 x13 x14 x15 x16 x17 x18 x19 x20 x21 x22 x23 x24 x25 x26 x27 : V} {H : Heap} {Q : Cont} : wp G b59_0 [x0, x1, x2, x3, x4, x5, x6, x7, x8, x9, x10, x11, x12, x13, x14, x15, x16, x17, x18, x19, x20, x21, x22, x23, x24, x25, x26, x27] H Q = (
    bd (lentV x0) fun a6_2 => 
    bd (binV .lss x3 a6_2) fun a7_3 => 
    ifB a7_3
      (bd (sidxV x0 x3) fun a12_6 => 
      bd (binV .lss a12_6 (.int .u8 33)) fun a13_7 => 
      wpg (gdV a13_7 false) H (fun k => k x0 H) fun a15_9 ha15_9 => 
      wpg (gdV a13_7 false) ha15_9 (fun k => k x3 ha15_9) fun a16_10 ha16_10 => 
      wpg (gdV a13_7 false) ha16_10 (fun k => bd (sidxV a15_9 a16_10) fun a17_11i => k a17_11i ha16_10) fun a17_11 ha17_11 => 
      wpg (gdV a13_7 false) ha17_11 (fun k => bd (binV .gtr a17_11 (.int .u8 126)) fun a18_12i => k a18_12i ha17_11) fun a18_12 ha18_12 => 
      bd (pickV a13_7 (.bool true) a18_12) fun a19_13 => 
      ifB a19_13
        (Q .r [x0, x1, (.bool false), x3, x3, x0, a6_2, a7_3, x8, x9, x0, x3, a12_6, a13_7, a13_7, a15_9, a16_10, a17_11, a18_12, a19_13, x20, x21, x22, x23, x24, x25, x26, x27] ha18_12)
        (bd (binV .add x3 (.int .i64 1)) fun a9_16 => 
        Q .n [x0, x1, x2, a9_16, x3, x0, a6_2, a7_3, x3, a9_16, x0, x3, a12_6, a13_7, a13_7, a15_9, a16_10, a17_11, a18_12, a19_13, x20, x21, x22, x23, x24, x25, x26, x27] ha18_12))
      (Q (.e 0) [x0, x1, x2, x3, x3, x0, a6_2, a7_3, x8, x9, x10, x11, x12, x13, x14, x15, x16, x17, x18, x19, x20, x21, x22, x23, x24, x25, x26, x27] H)) := by kernel_rfl
def Sb59_0 (I : Nat → V → V → Heap → Prop) : Nat → List V → Heap → Prop := fun i ts H => ts.length = 28 ∧ I i (ts.getD 0 undefV) (ts.getD 3 undefV) H
@[simp] theorem Sb59_0_eq {I : Nat → V → V → Heap → Prop} {i : Nat} {x0 x1 x2 x3 x4 x5 x6 x7 x8 x9 x10 x11 x12 x13 x14 x15 x16 x17 x18 x19 x20 x21 x22 x23 x24 x25 x26 x27 : V} {H : Heap} : Sb59_0 I i [x0, x1, x2, x3, x4, x5, x6, x7, x8, x9, x10, x11, x12, x13, x14, x15, x16, x17, x18, x19, x20, x21, x22, x23, x24, x25, x26, x27] H = I i x0 x3 H := propext ⟨fun h => h.2, fun h => ⟨rfl, h⟩⟩
theorem ub59_0 {Q : Cont} (M : Nat) (I : Nat → V → V → Heap → Prop) (step : ∀ i, i ≤ M → ∀ (x0 x3 : V) (H : Heap), I i x0 x3 H → ∀ (x1 x2 x4 x5 x6 x7 x8 x9 x10 x11 x12 x13 x14 x15 x16 x17 x18 x19 x20 x21 x22 x23 x24 x25 x26 x27 : V), wp G b59_0 [x0, x1, x2, x3, x4, x5, x6, x7, x8, x9, x10, x11, x12, x13, x14, x15, x16, x17, x18, x19, x20, x21, x22, x23, x24, x25, x26, x27] H (upQ M (Sb59_0 I) i Q)) (i : Nat) (hi : i ≤ M) {x0 x1 x2 x3 x4 x5 x6 x7 x8 x9 x10 x11 x12 x13 x14 x15 x16 x17 x18 x19 x20 x21 x22 x23 x24 x25 x26 x27 : V} {H : Heap} (h : I i x0 x3 H) : Lp G b59_0 [x0, x1, x2, x3, x4, x5, x6, x7, x8, x9, x10, x11, x12, x13, x14, x15, x16, x17, x18, x19, x20, x21, x22, x23, x24, x25, x26, x27] H Q :=
  Lp.up (S := Sb59_0 I) (fun i ts H hi hS => (congrArg (fun t => wp G b59_0 t H (upQ M (Sb59_0 I) i Q)) (tabF_eq hS.1)).mpr (step i hi (ts.getD 0 undefV) (ts.getD 3 undefV) H hS.2 (ts.getD 1 undefV) (ts.getD 2 undefV) (ts.getD 4 undefV) (ts.getD 5 undefV) (ts.getD 6 undefV) (ts.getD 7 undefV) (ts.getD 8 undefV) (ts.getD 9 undefV) (ts.getD 10 undefV) (ts.getD 11 undefV) (ts.getD 12 undefV) (ts.getD 13 undefV) (ts.getD 14 undefV) (ts.getD 15 undefV) (ts.getD 16 undefV) (ts.getD 17 undefV) (ts.getD 18 undefV) (ts.getD 19 undefV) (ts.getD 20 undefV) (ts.getD 21 undefV) (ts.getD 22 undefV) (ts.getD 23 undefV) (ts.getD 24 undefV) (ts.getD 25 undefV) (ts.getD 26 undefV) (ts.getD 27 undefV))) _ i _ H rfl hi ⟨rfl, h⟩
theorem wr59_1 {x0 x1 x2 x3 x4 x5 x6 x7 x8 x9 x10 x11 x12 x13 x14 x15 x16 x17 x18 x19 x20 x21 x22 x23 x24 x25 x26 x27 : V} {H : Heap} {Q : Cont} : wp G r59_1 [x0, x1, x2, x3, x4, x5, x6, x7, x8, x9, x10, x11, x12, x13, x14, x15, x16, x17, x18, x19, x20, x21, x22, x23, x24, x25, x26, x27] H Q = (
    bd (lentV x0) fun a21_1 => 
    bd (binV .geq a21_1 (.int .i64 1)) fun a22_2 => 
    wpg (gdV a22_2 true) H (fun k => k x0 H) fun a24_4 ha24_4 => 
    wpg (gdV a22_2 true) ha24_4 (fun k => bd (lentV a24_4) fun a25_5i => k a25_5i ha24_4) fun a25_5 ha25_5 => 
    wpg (gdV a22_2 true) ha25_5 (fun k => bd (binV .leq a25_5 (.int .i64 40)) fun a26_6i => k a26_6i ha25_5) fun a26_6 ha26_6 => 
    bd (pickV a22_2 a26_6 (.bool false)) fun a27_7 => 
    Q .r [x0, x1, a27_7, x3, x4, x5, x6, x7, x8, x9, x10, x11, x12, x13, x14, x15, x16, x17, x18, x19, x0, a21_1, a22_2, a22_2, a24_4, a25_5, a26_6, a27_7] ha26_6) := by kernel_rfl
/-! 64: slices.Index[[]int,int] -/
theorem w64 {x0 x1 : V} {H : Heap} {k : V → Heap → Prop} : runW G i64 [x0, x1] H k = (
    bd (lensV x0) fun a7_2 => 
    Lp G b64_0 [x0, x1, undefV, undefV, (.int .i64 0), undefV, x0, a7_2, (.int .i64 0), undefV, undefV, undefV, undefV, undefV, undefV, undefV, undefV, undefV, undefV] H (blockQ 0 (seqQ G r64_1 (retQ i64 k)))) := by kernel_rfl
@[simp] theorem ret64 {x0 x1 x2 x3 x4 x5 x6 x7 x8 x9 x10 x11 x12 x13 x14 x15 x16 x17 x18 : V} {H : Heap} {k : V → Heap → Prop} : retQ i64 k .r [x0, x1, x2, x3, x4, x5, x6, x7, x8, x9, x10, x11, x12, x13, x14, x15, x16, x17, x18] H = k x4 H := nrfl
@[simp] theorem ret64n {x0 x1 x2 x3 x4 x5 x6 x7 x8 x9 x10 x11 x12 x13 x14 x15 x16 x17 x18 : V} {H : Heap} {k : V → Heap → Prop} : retQ i64 k .n [x0, x1, x2, x3, x4, x5, x6, x7, x8, x9, x10, x11, x12, x13, x14, x15, x16, x17, x18] H = k x4 H := nrfl
theorem wb64_0 {x0 x1 x2 x3 x4 x5 x6 x7 x8 x9 x10 x11 x12 x13 x14 x15 x16 x17 x18 : V} {H : Heap} {Q : Cont} : wp G b64_0 [x0, x1, x2, x3, x4, x5, x6, x7, x8, x9, x10, x11, x12, x13, x14, x15, x16, x17, x18] H Q = (
    bd (binV .lss x8 x7) fun a9_0 => 
    ifB a9_0
      (bd (iadrV 1 x0 x8) fun a14_6 => 
      bd (ldV H a14_6 1 false) fun a15_7 => 
      bd (binV .eql x1 a15_7) fun a16_8 => 
      ifB a16_8
        (Q .r [x0, x1, x2, x3, x8, x8, x6, x7, x8, a9_0, x8, x1, x0, x8, a14_6, a15_7, a16_8, x8, x18] H)
        (bd (binV .add x8 (.int .i64 1)) fun a18_11 => 
        Q .n [x0, x1, x2, x3, x4, x8, x6, x7, a18_11, a9_0, x8, x1, x0, x8, a14_6, a15_7, a16_8, x17, a18_11] H))
      (Q (.e 0) [x0, x1, x2, x3, x4, x5, x6, x7, x8, a9_0, x10, x11, x12, x13, x14, x15, x16, x17, x18] H)) := by kernel_rfl
def Sb64_0 (I : Nat → V → V → V → V → Heap → Prop) : Nat → List V → Heap → Prop := fun i ts H => ts.length = 19 ∧ I i (ts.getD 0 undefV) (ts.getD 1 undefV) (ts.getD 7 undefV) (ts.getD 8 undefV) H
@[simp] theorem Sb64_0_eq {I : Nat → V → V → V → V → Heap → Prop} {i : Nat} {x0 x1 x2 x3 x4 x5 x6 x7 x8 x9 x10 x11 x12 x13 x14 x15 x16 x17 x18 : V} {H : Heap} : Sb64_0 I i [x0, x1, x2, x3, x4, x5, x6, x7, x8, x9, x10, x11, x12, x13, x14, x15, x16, x17, x18] H = I i x0 x1 x7 x8 H := propext ⟨fun h => h.2, fun h => ⟨rfl, h⟩⟩
theorem ub64_0 {Q : Cont} (M : Nat) (I : Nat → V → V → V → V → Heap → Prop) (step : ∀ i, i ≤ M → ∀ (x0 x1 x7 x8 : V) (H : Heap), I i x0 x1 x7 x8 H → ∀ (x2 x3 x4 x5 x6 x9 x10 x11 x12 x13 x14 x15 x16 x17 x18 : V), wp G b64_0 [x0, x1, x2, x3, x4, x5, x6, x7, x8, x9, x10, x11, x12, x13, x14, x15, x16, x17, x18] H (upQ M (Sb64_0 I) i Q)) (i : Nat) (hi : i ≤ M) {x0 x1 x2 x3 x4 x5 x6 x7 x8 x9 x10 x11 x12 x13 x14 x15 x16 x17 x18 : V} {H : Heap} (h : I i x0 x1 x7 x8 H) : Lp G b64_0 [x0, x1, x2, x3, x4, x5, x6, x7, x8, x9, x10, x11, x12, x13, x14, x15, x16, x17, x18] H Q :=
  Lp.up (S := Sb64_0 I) (fun i ts H hi hS => (congrArg (fun t => wp G b64_0 t H (upQ M (Sb64_0 I) i Q)) (tabF_eq hS.1)).mpr (step i hi (ts.getD 0 undefV) (ts.getD 1 undefV) (ts.getD 7 undefV) (ts.getD 8 undefV) H hS.2 (ts.getD 2 undefV) (ts.getD 3 undefV) (ts.getD 4 undefV) (ts.getD 5 undefV) (ts.getD 6 undefV) (ts.getD 9 undefV) (ts.getD 10 undefV) (ts.getD 11 undefV) (ts.getD 12 undefV) (ts.getD 13 undefV) (ts.getD 14 undefV) (ts.getD 15 undefV) (ts.getD 16 undefV) (ts.getD 17 undefV) (ts.getD 18 undefV))) _ i _ H rfl hi ⟨rfl, h⟩
theorem wr64_1 {x0 x1 x2 x3 x4 x5 x6 x7 x8 x9 x10 x11 x12 x13 x14 x15 x16 x17 x18 : V} {H : Heap} {Q : Cont} : wp G r64_1 [x0, x1, x2, x3, x4, x5, x6, x7, x8, x9, x10, x11, x12, x13, x14, x15, x16, x17, x18] H Q = (
    Q .r [x0, x1, x2, x3, (.int .i64 (-1)), x5, x6, x7, x8, x9, x10, x11, x12, x13, x14, x15, x16, x17, x18] H) := by kernel_rfl
/-! 65: slices.IndexFunc[[]int,int] -/
theorem w65 {x0 x1 : V} {H : Heap} {k : V → Heap → Prop} : runW G i65 [x0, x1] H k = (
    bd (lensV x0) fun a7_2 => 
    Lp G b65_0 [x0, x1, undefV, undefV, (.int .i64 0), undefV, x0, a7_2, (.int .i64 0), undefV, undefV, undefV, undefV, undefV, undefV, undefV, undefV, undefV, undefV] H (blockQ 0 (seqQ G r65_1 (retQ i65 k)))) := by kernel_rfl
@[simp] theorem ret65 {x0 x1 x2 x3 x4 x5 x6 x7 x8 x9 x10 x11 x12 x13 x14 x15 x16 x17 x18 : V} {H : Heap} {k : V → Heap → Prop} : retQ i65 k .r [x0, x1, x2, x3, x4, x5, x6, x7, x8, x9, x10, x11, x12, x13, x14, x15, x16, x17, x18] H = k x4 H := nrfl
@[simp] theorem ret65n {x0 x1 x2 x3 x4 x5 x6 x7 x8 x9 x10 x11 x12 x13 x14 x15 x16 x17 x18 : V} {H : Heap} {k : V → Heap → Prop} : retQ i65 k .n [x0, x1, x2, x3, x4, x5, x6, x7, x8, x9, x10, x11, x12, x13, x14, x15, x16, x17, x18] H = k x4 H := nrfl
theorem wb65_0 {x0 x1 x2 x3 x4 x5 x6 x7 x8 x9 x10 x11 x12 x13 x14 x15 x16 x17 x18 : V} {H : Heap} {Q : Cont} : wp G b65_0 [x0, x1, x2, x3, x4, x5, x6, x7, x8, x9, x10, x11, x12, x13, x14, x15, x16, x17, x18] H Q = (
    bd (binV .lss x8 x7) fun a9_0 => 
    ifB a9_0
      (bd (iadrV 1 x0 x8) fun a14_6 => 
      bd (ldV H a14_6 1 false) fun a15_7 => 
      bd (callV x1) fun c => (true || G.pur c.1) = true ∧ Cl G c.1 ([a15_7] ++ c.2) H fun a16_8 ha16_8 => 
      ifB a16_8
        (Q .r [x0, x1, x2, x3, x8, x8, x6, x7, x8, a9_0, x8, x1, x0, x8, a14_6, a15_7, a16_8, x8, x18] ha16_8)
        (bd (binV .add x8 (.int .i64 1)) fun a18_11 => 
        Q .n [x0, x1, x2, x3, x4, x8, x6, x7, a18_11, a9_0, x8, x1, x0, x8, a14_6, a15_7, a16_8, x17, a18_11] ha16_8))
      (Q (.e 0) [x0, x1, x2, x3, x4, x5, x6, x7, x8, a9_0, x10, x11, x12, x13, x14, x15, x16, x17, x18] H)) := by kernel_rfl
def Sb65_0 (I : Nat → V → V → V → V → Heap → Prop) : Nat → List V → Heap → Prop := fun i ts H => ts.length = 19 ∧ I i (ts.getD 0 undefV) (ts.getD 1 undefV) (ts.getD 7 undefV) (ts.getD 8 undefV) H
@[simp] theorem Sb65_0_eq {I : Nat → V → V → V → V → Heap → Prop} {i : Nat} {x0 x1 x2 x3 x4 x5 x6 x7 x8 x9 x10 x11 x12 x13 x14 x15 x16 x17 x18 : V} {H : Heap} : Sb65_0 I i [x0, x1, x2, x3, x4, x5, x6, x7, x8, x9, x10, x11, x12, x13, x14, x15, x16, x17, x18] H = I i x0 x1 x7 x8 H := propext ⟨fun h => h.2, fun h => ⟨rfl, h⟩⟩
theorem ub65_0 {Q : Cont} (M : Nat) (I : Nat → V → V → V → V → Heap → Prop) (step : ∀ i, i ≤ M → ∀ (x0 x1 x7 x8 : V) (H : Heap), I i x0 x1 x7 x8 H → ∀ (x2 x3 x4 x5 x6 x9 x10 x11 x12 x13 x14 x15 x16 x17 x18 : V), wp G b65_0 [x0, x1, x2, x3, x4, x5, x6, x7, x8, x9, x10, x11, x12, x13, x14, x15, x16, x17, x18] H (upQ M (Sb65_0 I) i Q)) (i : Nat) (hi : i ≤ M) {x0 x1 x2 x3 x4 x5 x6 x7 x8 x9 x10 x11 x12 x13 x14 x15 x16 x17 x18 : V} {H : Heap} (h : I i x0 x1 x7 x8 H) : Lp G b65_0 [x0, x1, x2, x3, x4, x5, x6, x7, x8, x9, x10, x11, x12, x13, x14, x15, x16, x17, x18] H Q :=
  Lp.up (S := Sb65_0 I) (fun i ts H hi hS => (congrArg (fun t => wp G b65_0 t H (upQ M (Sb65_0 I) i Q)) (tabF_eq hS.1)).mpr (step i hi (ts.getD 0 undefV) (ts.getD 1 undefV) (ts.getD 7 undefV) (ts.getD 8 undefV) H hS.2 (ts.getD 2 undefV) (ts.getD 3 undefV) (ts.getD 4 undefV) (ts.getD 5 undefV) (ts.getD 6 undefV) (ts.getD 9 undefV) (ts.getD 10 undefV) (ts.getD 11 undefV) (ts.getD 12 undefV) (ts.getD 13 undefV) (ts.getD 14 undefV) (ts.getD 15 undefV) (ts.getD 16 undefV) (ts.getD 17 undefV) (ts.getD 18 undefV))) _ i _ H rfl hi ⟨rfl, h⟩
theorem wr65_1 {x0 x1 x2 x3 x4 x5 x6 x7 x8 x9 x10 x11 x12 x13 x14 x15 x16 x17 x18 : V} {H : Heap} {Q : Cont} : wp G r65_1 [x0, x1, x2, x3, x4, x5, x6, x7, x8, x9, x10, x11, x12, x13, x14, x15, x16, x17, x18] H Q = (
    Q .r [x0, x1, x2, x3, (.int .i64 (-1)), x5, x6, x7, x8, x9, x10, x11, x12, x13, x14, x15, x16, x17, x18] H) := by kernel_rfl
/-! 66: dowel/task.order$1 -/
theorem w66 {x0 x1 : V} {H : Heap} {k : V → Heap → Prop} : runW G i66 [x0, x1] H k = (
    bd (ldV H x1 1 false) fun a4_1 => 
    bd (iadrV 1 a4_1 x0) fun a6_3 => 
    bd (ldV H a6_3 1 false) fun a7_4 => 
    bd (unV .not a7_4) fun a8_5 => 
    k a8_5 H) := by kernel_rfl
@[simp] theorem ret66 {x0 x1 x2 x3 x4 x5 x6 x7 x8 : V} {H : Heap} {k : V → Heap → Prop} : retQ i66 k .r [x0, x1, x2, x3, x4, x5, x6, x7, x8] H = k x3 H := nrfl
@[simp] theorem ret66n {x0 x1 x2 x3 x4 x5 x6 x7 x8 : V} {H : Heap} {k : V → Heap → Prop} : retQ i66 k .n [x0, x1, x2, x3, x4, x5, x6, x7, x8] H = k x3 H := nrfl
/-! 67: dowel/task.name -/
theorem w67 {x0 : V} {H : Heap} {k : V → Heap → Prop} : runW G i67 [x0] H k = (
    bd (lentV x0) fun a4_2 => 
    bd (binV .gtr a4_2 (.int .i64 0)) fun a5_3 => 
    wpg (gdV a5_3 true) H (fun k => k x0 H) fun a7_5 ha7_5 => 
    wpg (gdV a5_3 true) ha7_5 (fun k => bd (lentV a7_5) fun a8_6i => k a8_6i ha7_5) fun a8_6 ha8_6 => 
    wpg (gdV a5_3 true) ha8_6 (fun k => bd (binV .leq a8_6 (.int .i64 40)) fun a9_7i => k a9_7i ha8_6) fun a9_7 ha9_7 => 
    bd (pickV a5_3 a9_7 (.bool false)) fun a10_8 => 
    wpg (gdV a10_8 true) ha9_7 (fun k => k x0 ha9_7) fun a12_10 ha12_10 => 
    wpg (gdV a10_8 true) ha12_10 (fun k => (true || G.pur 77) = true ∧ Cl G 77 [a12_10, (.fn 78 [])] ha12_10 fun a13_11i ha13_11i => k a13_11i ha13_11i) fun a13_11 ha13_11 => 
    wpg (gdV a10_8 true) ha13_11 (fun k => bd (unV .not a13_11) fun a14_12i => k a14_12i ha13_11) fun a14_12 ha14_12 => 
    bd (pickV a10_8 a14_12 (.bool false)) fun a15_13 => 
    k a15_13 ha14_12) := by kernel_rfl
@[simp] theorem ret67 {x0 x1 x2 x3 x4 x5 x6 x7 x8 x9 x10 x11 x12 x13 x14 x15 : V} {H : Heap} {k : V → Heap → Prop} : retQ i67 k .r [x0, x1, x2, x3, x4, x5, x6, x7, x8, x9, x10, x11, x12, x13, x14, x15] H = k x2 H := nrfl
@[simp] theorem ret67n {x0 x1 x2 x3 x4 x5 x6 x7 x8 x9 x10 x11 x12 x13 x14 x15 : V} {H : Heap} {k : V → Heap → Prop} : retQ i67 k .n [x0, x1, x2, x3, x4, x5, x6, x7, x8, x9, x10, x11, x12, x13, x14, x15] H = k x2 H := nrfl
/-! 77: strings.ContainsFunc -/
theorem w77 {x0 x1 : V} {H : Heap} {k : V → Heap → Prop} : runW G i77 [x0, x1] H k = (
    (true || G.pur 85) = true ∧ Cl G 85 [x0, x1] H fun a7_3 ha7_3 => 
    bd (binV .geq a7_3 (.int .i64 0)) fun a8_4 => 
    k a8_4 ha7_3) := by kernel_rfl
@[simp] theorem ret77 {x0 x1 x2 x3 x4 x5 x6 x7 x8 : V} {H : Heap} {k : V → Heap → Prop} : retQ i77 k .r [x0, x1, x2, x3, x4, x5, x6, x7, x8] H = k x4 H := nrfl
@[simp] theorem ret77n {x0 x1 x2 x3 x4 x5 x6 x7 x8 : V} {H : Heap} {k : V → Heap → Prop} : retQ i77 k .n [x0, x1, x2, x3, x4, x5, x6, x7, x8] H = k x4 H := nrfl
/-! 78: dowel/task.name$1 -/
theorem w78 {x0 : V} {H : Heap} {k : V → Heap → Prop} : runW G i78 [x0] H k = (
    bd (binV .lss x0 (.int .i32 33)) fun a4_2 => 
    wpg (gdV a4_2 false) H (fun k => k x0 H) fun a6_4 ha6_4 => 
    wpg (gdV a4_2 false) ha6_4 (fun k => bd (binV .gtr a6_4 (.int .i32 126)) fun a7_5i => k a7_5i ha6_4) fun a7_5 ha7_5 => 
    bd (pickV a4_2 (.bool true) a7_5) fun a8_6 => 
    k a8_6 ha7_5) := by kernel_rfl
@[simp] theorem ret78 {x0 x1 x2 x3 x4 x5 x6 x7 x8 : V} {H : Heap} {k : V → Heap → Prop} : retQ i78 k .r [x0, x1, x2, x3, x4, x5, x6, x7, x8] H = k x2 H := nrfl
@[simp] theorem ret78n {x0 x1 x2 x3 x4 x5 x6 x7 x8 : V} {H : Heap} {k : V → Heap → Prop} : retQ i78 k .n [x0, x1, x2, x3, x4, x5, x6, x7, x8] H = k x2 H := nrfl
/-! 85: strings.IndexFunc -/
theorem w85 {x0 x1 : V} {H : Heap} {k : V → Heap → Prop} : runW G i85 [x0, x1] H k = (
    (true || G.pur 97) = true ∧ Cl G 97 [x0, x1, (.bool true)] H fun a7_3 ha7_3 => 
    k a7_3 ha7_3) := by kernel_rfl
@[simp] theorem ret85 {x0 x1 x2 x3 x4 x5 x6 x7 : V} {H : Heap} {k : V → Heap → Prop} : retQ i85 k .r [x0, x1, x2, x3, x4, x5, x6, x7] H = k x4 H := nrfl
@[simp] theorem ret85n {x0 x1 x2 x3 x4 x5 x6 x7 : V} {H : Heap} {k : V → Heap → Prop} : retQ i85 k .n [x0, x1, x2, x3, x4, x5, x6, x7] H = k x4 H := nrfl
/-! 97: strings.indexFunc -/
theorem w97 {x0 x1 x2 : V} {H : Heap} {k : V → Heap → Prop} : runW G i97 [x0, x1, x2] H k = (
    bd (rngV x0) fun a10_2b => newB H a10_2b fun a10_2 ha10_2 => 
    Lp G b97_0 [x0, x1, x2, undefV, undefV, undefV, (.int .i64 0), undefV, undefV, x0, a10_2, undefV, undefV, undefV, undefV, undefV, undefV, undefV, undefV, undefV, undefV] ha10_2 (blockQ 0 (seqQ G r97_1 (retQ i97 k)))) := by kernel_rfl
@[simp] theorem ret97 {x0 x1 x2 x3 x4 x5 x6 x7 x8 x9 x10 x11 x12 x13 x14 x15 x16 x17 x18 x19 x20 : V} {H : Heap} {k : V → Heap → Prop} : retQ i97 k .r [x0, x1, x2, x3, x4, x5, x6, x7, x8, x9, x10, x11, x12, x13, x14, x15, x16, x17, x18, x19, x20] H = k x6 H := nrfl
@[simp] theorem ret97n {x0 x1 x2 x3 x4 x5 x6 x7 x8 x9 x10 x11 x12 x13 x14 x15 x16 x17 x18 x19 x20 : V} {H : Heap} {k : V → Heap → Prop} : retQ i97 k .n [x0, x1, x2, x3, x4, x5, x6, x7, x8, x9, x10, x11, x12, x13, x14, x15, x16, x17, x18, x19, x20] H = k x6 H := nrfl
theorem wb97_0 {x0 x1 x2 x3 x4 x5 x6 x7 x8 x9 x10 x11 x12 x13 x14 x15 x16 x17 x18 x19 x20 : V} {H : Heap} {Q : Cont} : wp G b97_0 [x0, x1, x2, x3, x4, x5, x6, x7, x8, x9, x10, x11, x12, x13, x14, x15, x16, x17, x18, x19, x20] H Q = (
    true = true ∧ bd2 (nxtV H x10) fun a11_0 ha11_0 => 
    bd (extV 0 a11_0) fun a12_1 => 
    ifB a12_1
      (bd (extV 1 a11_0) fun a13_2 => 
      bd (extV 2 a11_0) fun a14_3 => 
      bd (callV x1) fun c => (true || G.pur c.1) = true ∧ Cl G c.1 ([a14_3] ++ c.2) ha11_0 fun a17_8 ha17_8 => 
      bd (eqnV .bool false a17_8 x2) fun a19_10 => 
      ifB a19_10
        (Q .r [x0, x1, x2, x3, x4, x5, a13_2, a13_2, a14_3, x9, x10, a11_0, a12_1, a13_2, a14_3, x1, a14_3, a17_8, x2, a19_10, a13_2] ha17_8)
        (Q .n [x0, x1, x2, x3, x4, x5, x6, a13_2, a14_3, x9, x10, a11_0, a12_1, a13_2, a14_3, x1, a14_3, a17_8, x2, a19_10, x20] ha17_8))
      (Q (.e 0) [x0, x1, x2, x3, x4, x5, x6, x7, x8, x9, x10, a11_0, a12_1, x13, x14, x15, x16, x17, x18, x19, x20] ha11_0)) := by kernel_rfl
def Sb97_0 (I : Nat → V → V → V → Heap → Prop) : Nat → List V → Heap → Prop := fun i ts H => ts.length = 21 ∧ I i (ts.getD 1 undefV) (ts.getD 2 undefV) (ts.getD 10 undefV) H
@[simp] theorem Sb97_0_eq {I : Nat → V → V → V → Heap → Prop} {i : Nat} {x0 x1 x2 x3 x4 x5 x6 x7 x8 x9 x10 x11 x12 x13 x14 x15 x16 x17 x18 x19 x20 : V} {H : Heap} : Sb97_0 I i [x0, x1, x2, x3, x4, x5, x6, x7, x8, x9, x10, x11, x12, x13, x14, x15, x16, x17, x18, x19, x20] H = I i x1 x2 x10 H := propext ⟨fun h => h.2, fun h => ⟨rfl, h⟩⟩
theorem ub97_0 {Q : Cont} (M : Nat) (I : Nat → V → V → V → Heap → Prop) (step : ∀ i, i ≤ M → ∀ (x1 x2 x10 : V) (H : Heap), I i x1 x2 x10 H → ∀ (x0 x3 x4 x5 x6 x7 x8 x9 x11 x12 x13 x14 x15 x16 x17 x18 x19 x20 : V), wp G b97_0 [x0, x1, x2, x3, x4, x5, x6, x7, x8, x9, x10, x11, x12, x13, x14, x15, x16, x17, x18, x19, x20] H (upQ M (Sb97_0 I) i Q)) (i : Nat) (hi : i ≤ M) {x0 x1 x2 x3 x4 x5 x6 x7 x8 x9 x10 x11 x12 x13 x14 x15 x16 x17 x18 x19 x20 : V} {H : Heap} (h : I i x1 x2 x10 H) : Lp G b97_0 [x0, x1, x2, x3, x4, x5, x6, x7, x8, x9, x10, x11, x12, x13, x14, x15, x16, x17, x18, x19, x20] H Q :=
  Lp.up (S := Sb97_0 I) (fun i ts H hi hS => (congrArg (fun t => wp G b97_0 t H (upQ M (Sb97_0 I) i Q)) (tabF_eq hS.1)).mpr (step i hi (ts.getD 1 undefV) (ts.getD 2 undefV) (ts.getD 10 undefV) H hS.2 (ts.getD 0 undefV) (ts.getD 3 undefV) (ts.getD 4 undefV) (ts.getD 5 undefV) (ts.getD 6 undefV) (ts.getD 7 undefV) (ts.getD 8 undefV) (ts.getD 9 undefV) (ts.getD 11 undefV) (ts.getD 12 undefV) (ts.getD 13 undefV) (ts.getD 14 undefV) (ts.getD 15 undefV) (ts.getD 16 undefV) (ts.getD 17 undefV) (ts.getD 18 undefV) (ts.getD 19 undefV) (ts.getD 20 undefV))) _ i _ H rfl hi ⟨rfl, h⟩
theorem wr97_1 {x0 x1 x2 x3 x4 x5 x6 x7 x8 x9 x10 x11 x12 x13 x14 x15 x16 x17 x18 x19 x20 : V} {H : Heap} {Q : Cont} : wp G r97_1 [x0, x1, x2, x3, x4, x5, x6, x7, x8, x9, x10, x11, x12, x13, x14, x15, x16, x17, x18, x19, x20] H Q = (
    Q .r [x0, x1, x2, x3, x4, x5, (.int .i64 (-1)), x7, x8, x9, x10, x11, x12, x13, x14, x15, x16, x17, x18, x19, x20] H) := by kernel_rfl
end Go.Proofs.Ytoommmeapdkopaa.E
