/- What the interpreter owes at each of these functions, line by line: equations, each by the kernel. No conditions. -/
import Derived.Test.YtoommmeapdkopaaZC2
import Derived.KernelRfl
set_option maxRecDepth 20000
namespace Go.Proofs.Ytoommmeapdkopaa.E
open Go Go.Eng
section
variable {z : List V} {x0 x1 x2 x3 x4 x5 x6 x7 x8 x9 aA aB aC aD aE aF aG aH aI aJ aK aL aM aN aO aP aQ aR aS aT aU aV aW aX aY aZ cA cB cC cD cE cF cG cH cI cJ cK cL cM cN cO cP cQ cR cS cT cU cV cW cX cY cZ dA dB dC dD dE dF dG dH dI dJ dK dL dM dN dO dP dQ dR dS dT dU dV dW dX dY dZ eA eB eC eD eE eF eG eH eI eJ eK eL : V} {H : Heap} {k : V → Heap → Prop} {Q : Cont}
@[simp] theorem pur31 : G.pur 31 = true := by kernel_rfl
@[simp] theorem pur33 : G.pur 33 = true := by kernel_rfl
@[simp] theorem pur34 : G.pur 34 = true := by kernel_rfl
@[simp] theorem pur36 : G.pur 36 = true := by kernel_rfl
@[simp] theorem pur50 : G.pur 50 = true := by kernel_rfl
@[simp] theorem pur51 : G.pur 51 = true := by kernel_rfl
@[simp] theorem pur56 : G.pur 56 = true := by kernel_rfl
@[simp] theorem pur59 : G.pur 59 = true := by kernel_rfl
@[simp] theorem pur66 : G.pur 66 = true := by kernel_rfl
@[simp] theorem pur69 : G.pur 69 = true := by kernel_rfl
@[simp] theorem pur71 : G.pur 71 = true := by kernel_rfl
@[simp] theorem pur77 : G.pur 77 = true := by kernel_rfl
@[simp] theorem pur78 : G.pur 78 = true := by kernel_rfl
@[simp] theorem pur82 : G.pur 82 = true := by kernel_rfl
@[simp] theorem pur85 : G.pur 85 = true := by kernel_rfl
@[simp] theorem pur97 : G.pur 97 = true := by kernel_rfl
theorem w14 : runW G i14 [x0] H k = (
  bd (bxrV x0) fun p0=>
  bd (fadrV 0 p0) fun p1=>
  bd (ldV H p1 1 false) fun p2=>
  bd (lensV p2) fun p3=>
  bd (binV .gtr p3 (.int .i64 24)) fun p4=>
  wpg (gdV p4 false) H (fun k => bd (fadrV 1 p0) fun p5 => k p5 H) fun p6 p7=>
  wpg (gdV p4 false) p7 (fun k => bd (ldV p7 p6 1 false) fun p8 => k p8 p7) fun p9 pA=>
  wpg (gdV p4 false) pA (fun k => bd (lensV p9) fun pB => k pB pA) fun pC pD=>
  wpg (gdV p4 false) pD (fun k => bd (binV .gtr pC (.int .i64 8)) fun pE => k pE pD) fun pF pG=>
  bd (pickV p4 (.bool true) pF) fun pH=>
  ifB pH
   (k (.int .i64 6) pG)
   (Lp G b14_0 (x0::p0::(.int .i64 0)::(.int .i64 0)::undefV::undefV::undefV::undefV::undefV::undefV::p1::p2::p3::p4::p4::p6::p9::pC::pF::pH::undefV::undefV::undefV::undefV::undefV::undefV::undefV::undefV::undefV::undefV::undefV::undefV::undefV::undefV::undefV::undefV::undefV::undefV::undefV::undefV::undefV::undefV::undefV::undefV::undefV::undefV::undefV::undefV::undefV::undefV::undefV::undefV::undefV::undefV::undefV::undefV::undefV::undefV::undefV::undefV::undefV::undefV::undefV::undefV::undefV::undefV::[]) pG (blockQ 0 (seqQ G r14_1 (retQ i14 k))))) := by kernel_rfl
@[simp] theorem ret14 : retQ i14 k .r (x0::x1::x2::z) H = k x2 H := nrfl
theorem wb14_0 : wp G b14_0 (x0::x1::x2::x3::x4::x5::x6::x7::x8::x9::aA::aB::aC::aD::aE::aF::aG::aH::aI::aJ::aK::aL::aM::aN::aO::aP::aQ::aR::aS::aT::aU::aV::aW::z) H Q = (
  bd (fadrV 0 x1) fun p0=>
  bd (ldV H p0 1 false) fun p1=>
  bd (lensV p1) fun p2=>
  bd (binV .lss x3 p2) fun p3=>
  ifB p3
   (bd (ldV H x1 2 true) fun p4=>
   (true || G.pur 38) = true ∧ Cl G 38 [p4,x3] H fun p5 p6=>
   bd (binV .neq p5 (.int .i64 0)) fun p7=>
   ifB p7
    (Q .r (x0::x1::p5::x3::p5::x5::x6::x7::x8::x9::aA::aB::aC::aD::aE::aF::aG::aH::aI::aJ::x3::p0::p1::p2::p3::aP::aQ::p4::x3::p5::p5::p7::p5::z) p6)
    (bd (binV .add x3 (.int .i64 1)) fun p8=>
    Q .n (x0::x1::x2::p8::p5::x5::x6::x7::x8::x9::aA::aB::aC::aD::aE::aF::aG::aH::aI::aJ::x3::p0::p1::p2::p3::x3::p8::p4::x3::p5::p5::p7::aW::z) p6))
   (Q (.e 0) (x0::x1::x2::x3::x4::x5::x6::x7::x8::x9::aA::aB::aC::aD::aE::aF::aG::aH::aI::aJ::x3::p0::p1::p2::p3::aP::aQ::aR::aS::aT::aU::aV::aW::z) H)) := by kernel_rfl
def Sb14_0 (I : Nat → V → V → Heap → Prop) : Nat → List V → Heap → Prop := fun i ts H => ts.length = 66 ∧ I i (ts.getD 1 undefV) (ts.getD 3 undefV) H
@[simp] theorem Sb14_0_eq {I : Nat → V → V → Heap → Prop} {i : Nat} : Sb14_0 I i (x0::x1::x2::x3::x4::x5::x6::x7::x8::x9::aA::aB::aC::aD::aE::aF::aG::aH::aI::aJ::aK::aL::aM::aN::aO::aP::aQ::aR::aS::aT::aU::aV::aW::aX::aY::aZ::cA::cB::cC::cD::cE::cF::cG::cH::cI::cJ::cK::cL::cM::cN::cO::cP::cQ::cR::cS::cT::cU::cV::cW::cX::cY::cZ::dA::dB::dC::dD::[]) H = I i x1 x3 H := propext ⟨fun h => h.2,fun h => ⟨rfl,h⟩⟩
theorem ub14_0 (M : Nat) (I : Nat → V → V → Heap → Prop) (step : ∀ i,i ≤ M → ∀ (x1 x3 : V) (H : Heap),I i x1 x3 H → ∀ (x0 x2 x4 x5 x6 x7 x8 x9 aA aB aC aD aE aF aG aH aI aJ aK aL aM aN aO aP aQ aR aS aT aU aV aW aX aY aZ cA cB cC cD cE cF cG cH cI cJ cK cL cM cN cO cP cQ cR cS cT cU cV cW cX cY cZ dA dB dC dD : V),wp G b14_0 (x0::x1::x2::x3::x4::x5::x6::x7::x8::x9::aA::aB::aC::aD::aE::aF::aG::aH::aI::aJ::aK::aL::aM::aN::aO::aP::aQ::aR::aS::aT::aU::aV::aW::aX::aY::aZ::cA::cB::cC::cD::cE::cF::cG::cH::cI::cJ::cK::cL::cM::cN::cO::cP::cQ::cR::cS::cT::cU::cV::cW::cX::cY::cZ::dA::dB::dC::dD::[]) H (upQ M (Sb14_0 I) i Q)) (i : Nat) (hi : i ≤ M) (h : I i x1 x3 H) : Lp G b14_0 (x0::x1::x2::x3::x4::x5::x6::x7::x8::x9::aA::aB::aC::aD::aE::aF::aG::aH::aI::aJ::aK::aL::aM::aN::aO::aP::aQ::aR::aS::aT::aU::aV::aW::aX::aY::aZ::cA::cB::cC::cD::cE::cF::cG::cH::cI::cJ::cK::cL::cM::cN::cO::cP::cQ::cR::cS::cT::cU::cV::cW::cX::cY::cZ::dA::dB::dC::dD::[]) H Q :=
  Lp.up (S := Sb14_0 I) (fun i t H hi hS => (congrArg (fun t => wp G b14_0 t H (upQ M (Sb14_0 I) i Q)) (tabF_eq hS.1)).mpr (step i hi _ _ H hS.2 ..)) _ i _ H rfl hi ⟨rfl,h⟩
theorem wr14_1 : wp G r14_1 (x0::x1::x2::x3::x4::x5::x6::x7::x8::x9::aA::aB::aC::aD::aE::aF::aG::aH::aI::aJ::aK::aL::aM::aN::aO::aP::aQ::aR::aS::aT::aU::aV::aW::aX::aY::aZ::cA::cB::cC::cD::cE::z) H Q = (
  bd (ldV H x1 2 true) fun p0=>
  (true || G.pur 40) = true ∧ Cl G 40 [p0] H fun p1 p2=>
  (true || G.pur 39) = true ∧ Cl G 39 [p1] p2 fun p3 p4=>
  bd (extV 0 p3) fun p5=>
  bd (extV 1 p3) fun p6=>
  bd (binV .neq p6 (.int .i64 0)) fun p7=>
  ifB p7
   (Q .r (x0::x1::(.int .i64 30)::x3::x4::p5::p6::x7::x8::x9::aA::aB::aC::aD::aE::aF::aG::aH::aI::aJ::aK::aL::aM::aN::aO::aP::aQ::aR::aS::aT::aU::aV::aW::p3::p0::p1::p3::p5::p6::p6::p7::z) p4)
   (Lp G b14_2 (x0::x1::x2::x3::x4::p5::p6::(.int .i64 0)::x8::x9::aA::aB::aC::aD::aE::aF::aG::aH::aI::aJ::aK::aL::aM::aN::aO::aP::aQ::aR::aS::aT::aU::aV::aW::p3::p0::p1::p3::p5::p6::p6::p7::z) p4 (blockQ 2 (seqQ G r14_3 Q)))) := by kernel_rfl
theorem wb14_2 : wp G b14_2 (x0::x1::x2::x3::x4::x5::x6::x7::x8::x9::aA::aB::aC::aD::aE::aF::aG::aH::aI::aJ::aK::aL::aM::aN::aO::aP::aQ::aR::aS::aT::aU::aV::aW::aX::aY::aZ::cA::cB::cC::cD::cE::cF::cG::cH::cI::cJ::cK::cL::cM::cN::cO::cP::cQ::cR::z) H Q = (
  bd (fadrV 1 x1) fun p0=>
  bd (ldV H p0 1 false) fun p1=>
  bd (lensV p1) fun p2=>
  bd (binV .lss x7 p2) fun p3=>
  ifB p3
   (bd (ldV H x1 2 true) fun p4=>
   (true || G.pur 41) = true ∧ Cl G 41 [p4,x7] H fun p5 p6=>
   bd (binV .neq p5 (.int .i64 0)) fun p7=>
   ifB p7
    (Q .r (x0::x1::p5::x3::x4::x5::x6::x7::p5::x9::aA::aB::aC::aD::aE::aF::aG::aH::aI::aJ::aK::aL::aM::aN::aO::aP::aQ::aR::aS::aT::aU::aV::aW::aX::aY::aZ::cA::cB::cC::cD::cE::x7::p0::p1::p2::p3::cK::cL::p4::x7::p5::p5::p7::p5::z) p6)
    (bd (binV .add x7 (.int .i64 1)) fun p8=>
    Q .n (x0::x1::x2::x3::x4::x5::x6::p8::p5::x9::aA::aB::aC::aD::aE::aF::aG::aH::aI::aJ::aK::aL::aM::aN::aO::aP::aQ::aR::aS::aT::aU::aV::aW::aX::aY::aZ::cA::cB::cC::cD::cE::x7::p0::p1::p2::p3::x7::p8::p4::x7::p5::p5::p7::cR::z) p6))
   (Q (.e 2) (x0::x1::x2::x3::x4::x5::x6::x7::x8::x9::aA::aB::aC::aD::aE::aF::aG::aH::aI::aJ::aK::aL::aM::aN::aO::aP::aQ::aR::aS::aT::aU::aV::aW::aX::aY::aZ::cA::cB::cC::cD::cE::x7::p0::p1::p2::p3::cK::cL::cM::cN::cO::cP::cQ::cR::z) H)) := by kernel_rfl
def Sb14_2 (I : Nat → V → V → Heap → Prop) : Nat → List V → Heap → Prop := fun i ts H => ts.length = 66 ∧ I i (ts.getD 1 undefV) (ts.getD 7 undefV) H
@[simp] theorem Sb14_2_eq {I : Nat → V → V → Heap → Prop} {i : Nat} : Sb14_2 I i (x0::x1::x2::x3::x4::x5::x6::x7::x8::x9::aA::aB::aC::aD::aE::aF::aG::aH::aI::aJ::aK::aL::aM::aN::aO::aP::aQ::aR::aS::aT::aU::aV::aW::aX::aY::aZ::cA::cB::cC::cD::cE::cF::cG::cH::cI::cJ::cK::cL::cM::cN::cO::cP::cQ::cR::cS::cT::cU::cV::cW::cX::cY::cZ::dA::dB::dC::dD::[]) H = I i x1 x7 H := propext ⟨fun h => h.2,fun h => ⟨rfl,h⟩⟩
theorem ub14_2 (M : Nat) (I : Nat → V → V → Heap → Prop) (step : ∀ i,i ≤ M → ∀ (x1 x7 : V) (H : Heap),I i x1 x7 H → ∀ (x0 x2 x3 x4 x5 x6 x8 x9 aA aB aC aD aE aF aG aH aI aJ aK aL aM aN aO aP aQ aR aS aT aU aV aW aX aY aZ cA cB cC cD cE cF cG cH cI cJ cK cL cM cN cO cP cQ cR cS cT cU cV cW cX cY cZ dA dB dC dD : V),wp G b14_2 (x0::x1::x2::x3::x4::x5::x6::x7::x8::x9::aA::aB::aC::aD::aE::aF::aG::aH::aI::aJ::aK::aL::aM::aN::aO::aP::aQ::aR::aS::aT::aU::aV::aW::aX::aY::aZ::cA::cB::cC::cD::cE::cF::cG::cH::cI::cJ::cK::cL::cM::cN::cO::cP::cQ::cR::cS::cT::cU::cV::cW::cX::cY::cZ::dA::dB::dC::dD::[]) H (upQ M (Sb14_2 I) i Q)) (i : Nat) (hi : i ≤ M) (h : I i x1 x7 H) : Lp G b14_2 (x0::x1::x2::x3::x4::x5::x6::x7::x8::x9::aA::aB::aC::aD::aE::aF::aG::aH::aI::aJ::aK::aL::aM::aN::aO::aP::aQ::aR::aS::aT::aU::aV::aW::aX::aY::aZ::cA::cB::cC::cD::cE::cF::cG::cH::cI::cJ::cK::cL::cM::cN::cO::cP::cQ::cR::cS::cT::cU::cV::cW::cX::cY::cZ::dA::dB::dC::dD::[]) H Q :=
  Lp.up (S := Sb14_2 I) (fun i t H hi hS => (congrArg (fun t => wp G b14_2 t H (upQ M (Sb14_2 I) i Q)) (tabF_eq hS.1)).mpr (step i hi _ _ H hS.2 ..)) _ i _ H rfl hi ⟨rfl,h⟩
theorem wr14_3 : wp G r14_3 (x0::x1::x2::x3::x4::x5::x6::x7::x8::x9::z) H Q = (
  Lp G b14_4 (x0::x1::x2::x3::x4::x5::x6::x7::x8::(.int .i64 0)::z) H (blockQ 4 (seqQ G r14_5 Q))) := by kernel_rfl
theorem wb14_4 : wp G b14_4 (x0::x1::x2::x3::x4::x5::x6::x7::x8::x9::aA::aB::aC::aD::aE::aF::aG::aH::aI::aJ::aK::aL::aM::aN::aO::aP::aQ::aR::aS::aT::aU::aV::aW::aX::aY::aZ::cA::cB::cC::cD::cE::cF::cG::cH::cI::cJ::cK::cL::cM::cN::cO::cP::cQ::cR::cS::cT::cU::cV::cW::cX::cY::cZ::dA::dB::dC::dD::[]) H Q = (
  bd (fadrV 0 x1) fun p0=>
  bd (ldV H p0 1 false) fun p1=>
  bd (lensV p1) fun p2=>
  bd (binV .lss x9 p2) fun p3=>
  ifB p3
   (bd (ldV H x1 2 true) fun p4=>
   (true || G.pur 24) = true ∧ Cl G 24 [p4,x9] H fun p5 p6=>
   bd (lensV p5) fun p7=>
   bd (binV .eql p7 (.int .i64 0)) fun p8=>
   ifB p8
    (Q .r (x0::x1::(.int .i64 10)::x3::x4::x5::x6::x7::x8::x9::aA::aB::aC::aD::aE::aF::aG::aH::aI::aJ::aK::aL::aM::aN::aO::aP::aQ::aR::aS::aT::aU::aV::aW::aX::aY::aZ::cA::cB::cC::cD::cE::cF::cG::cH::cI::cJ::cK::cL::cM::cN::cO::cP::cQ::cR::x9::p0::p1::p2::p3::cX::cY::p4::x9::p5::p7::p8::[]) p6)
    (bd (binV .add x9 (.int .i64 1)) fun p9=>
    Q .n (x0::x1::x2::x3::x4::x5::x6::x7::x8::p9::aA::aB::aC::aD::aE::aF::aG::aH::aI::aJ::aK::aL::aM::aN::aO::aP::aQ::aR::aS::aT::aU::aV::aW::aX::aY::aZ::cA::cB::cC::cD::cE::cF::cG::cH::cI::cJ::cK::cL::cM::cN::cO::cP::cQ::cR::x9::p0::p1::p2::p3::x9::p9::p4::x9::p5::p7::p8::[]) p6))
   (Q (.e 4) (x0::x1::x2::x3::x4::x5::x6::x7::x8::x9::aA::aB::aC::aD::aE::aF::aG::aH::aI::aJ::aK::aL::aM::aN::aO::aP::aQ::aR::aS::aT::aU::aV::aW::aX::aY::aZ::cA::cB::cC::cD::cE::cF::cG::cH::cI::cJ::cK::cL::cM::cN::cO::cP::cQ::cR::x9::p0::p1::p2::p3::cX::cY::cZ::dA::dB::dC::dD::[]) H)) := by kernel_rfl
def Sb14_4 (I : Nat → V → V → Heap → Prop) : Nat → List V → Heap → Prop := fun i ts H => ts.length = 66 ∧ I i (ts.getD 1 undefV) (ts.getD 9 undefV) H
@[simp] theorem Sb14_4_eq {I : Nat → V → V → Heap → Prop} {i : Nat} : Sb14_4 I i (x0::x1::x2::x3::x4::x5::x6::x7::x8::x9::aA::aB::aC::aD::aE::aF::aG::aH::aI::aJ::aK::aL::aM::aN::aO::aP::aQ::aR::aS::aT::aU::aV::aW::aX::aY::aZ::cA::cB::cC::cD::cE::cF::cG::cH::cI::cJ::cK::cL::cM::cN::cO::cP::cQ::cR::cS::cT::cU::cV::cW::cX::cY::cZ::dA::dB::dC::dD::[]) H = I i x1 x9 H := propext ⟨fun h => h.2,fun h => ⟨rfl,h⟩⟩
theorem ub14_4 (M : Nat) (I : Nat → V → V → Heap → Prop) (step : ∀ i,i ≤ M → ∀ (x1 x9 : V) (H : Heap),I i x1 x9 H → ∀ (x0 x2 x3 x4 x5 x6 x7 x8 aA aB aC aD aE aF aG aH aI aJ aK aL aM aN aO aP aQ aR aS aT aU aV aW aX aY aZ cA cB cC cD cE cF cG cH cI cJ cK cL cM cN cO cP cQ cR cS cT cU cV cW cX cY cZ dA dB dC dD : V),wp G b14_4 (x0::x1::x2::x3::x4::x5::x6::x7::x8::x9::aA::aB::aC::aD::aE::aF::aG::aH::aI::aJ::aK::aL::aM::aN::aO::aP::aQ::aR::aS::aT::aU::aV::aW::aX::aY::aZ::cA::cB::cC::cD::cE::cF::cG::cH::cI::cJ::cK::cL::cM::cN::cO::cP::cQ::cR::cS::cT::cU::cV::cW::cX::cY::cZ::dA::dB::dC::dD::[]) H (upQ M (Sb14_4 I) i Q)) (i : Nat) (hi : i ≤ M) (h : I i x1 x9 H) : Lp G b14_4 (x0::x1::x2::x3::x4::x5::x6::x7::x8::x9::aA::aB::aC::aD::aE::aF::aG::aH::aI::aJ::aK::aL::aM::aN::aO::aP::aQ::aR::aS::aT::aU::aV::aW::aX::aY::aZ::cA::cB::cC::cD::cE::cF::cG::cH::cI::cJ::cK::cL::cM::cN::cO::cP::cQ::cR::cS::cT::cU::cV::cW::cX::cY::cZ::dA::dB::dC::dD::[]) H Q :=
  Lp.up (S := Sb14_4 I) (fun i t H hi hS => (congrArg (fun t => wp G b14_4 t H (upQ M (Sb14_4 I) i Q)) (tabF_eq hS.1)).mpr (step i hi _ _ H hS.2 ..)) _ i _ H rfl hi ⟨rfl,h⟩
theorem wr14_5 : wp G r14_5 (x0::x1::x2::z) H Q = (
  Q .r (x0::x1::(.int .i64 0)::z) H) := by kernel_rfl
theorem w16 : runW G i16 [x0] H k = (
  bd (bxrV x0) fun p0=>
  newB H (.cells [.nils]) fun p1 p2=>
  bd (ldV p2 p0 2 true) fun p3=>
  (true || G.pur 29) = true ∧ Cl G 29 [p3] p2 fun p4 p5=>
  bd (binV .neq p4 (.int .i64 0)) fun p6=>
  ifB p6
   (true = true ∧ bd (stV p5 1 p1 .nils) fun p7=>
   bd (resultV [x0,p0,(.int .i64 0),p1,p4,p4,undefV,undefV,p3,p4,p4,p6,p4,undefV,undefV,undefV,undefV,undefV,undefV,undefV,undefV,undefV,undefV,undefV,undefV,undefV,undefV] p7 i16.res) fun v => k v p7)
   (bd (fadrV 0 p0) fun p8=>
   bd (ldV p5 p8 1 false) fun p9=>
   bd (lensV p9) fun pA=>
   bd (binV .eql pA (.int .i64 0)) fun pB=>
   ifB pB
    (true = true ∧ bd (stV p5 1 p1 .nils) fun pC=>
    bd (resultV [x0,p0,(.int .i64 0),p1,(.int .i64 0),p4,undefV,undefV,p3,p4,p4,p6,undefV,p8,p9,pA,pB,undefV,undefV,undefV,undefV,undefV,undefV,undefV,undefV,undefV,undefV] pC i16.res) fun v => k v pC)
    (bd (ldV p5 p0 2 true) fun pD=>
    (true || G.pur 42) = true ∧ Cl G 42 [pD] p5 fun pE pF=>
    newB pF (.cells [.nils]) fun pG pH=>
    true = true ∧ bd (stV pH 1 pG pE) fun pI=>
    bd (ldV pI pG 1 false) fun pJ=>
    (true || G.pur 43) = true ∧ Cl G 43 [pJ] pI fun pK pL=>
    newB pL (.cells [.nilf]) fun pM pN=>
    true = true ∧ bd (stV pN 1 pM (.fn 44 [p0,pG,p1,pM])) fun pO=>
    bd (ldV pO pM 1 false) fun pP=>
    bd (callV pP) fun c => (true || G.pur c.1) = true ∧ Cl G c.1 ([(.int .i64 (-1)),pK] ++ c.2) pO fun pQ pR=>
    bd (ldV pR p1 1 false) fun pS=>
    true = true ∧ bd (stV pR 1 p1 pS) fun pT=>
    bd (resultV [x0,p0,pK,p1,(.int .i64 0),p4,pG,pM,p3,p4,p4,p6,undefV,p8,p9,pA,pB,pD,pE,pJ,pK,(.fn 44 [p0,pG,p1,pM]),pP,pK,pQ,pK,pS] pT i16.res) fun v => k v pT))) := by kernel_rfl
theorem w17 : runW G i17 [x0] H k = (
  bd (bxrV x0) fun p0=>
  newB H (.cells [.nils,.nils]) fun p1 p2=>
  bd (ldV p2 p0 2 true) fun p3=>
  (true || G.pur 29) = true ∧ Cl G 29 [p3] p2 fun p4 p5=>
  bd (binV .neq p4 (.int .i64 0)) fun p6=>
  ifB p6
   (bd (bldV [.nils,.nils] []) fun p7=>
   true = true ∧ bd (stV p5 2 p1 p7) fun p8=>
   bd (resultV [x0,p0,p1,p4,p4,undefV,undefV,undefV,undefV,undefV,undefV,p3,p4,p4,p6,p7,p4,undefV,undefV,undefV,undefV,undefV,undefV,undefV,undefV,undefV,undefV,undefV,undefV,undefV,undefV,undefV,undefV,undefV,undefV,undefV,undefV,undefV,undefV,undefV,undefV,undefV,undefV,undefV,undefV,undefV,undefV,undefV,undefV,undefV,undefV,undefV,undefV,undefV,undefV,undefV,undefV,undefV] p8 i17.res) fun v => k v p8)
   (bd (ldV p5 p0 2 true) fun p9=>
   (true || G.pur 46) = true ∧ Cl G 46 [p9] p5 fun pA pB=>
   newB pB (.cells [.nils]) fun pC pD=>
   true = true ∧ bd (stV pD 1 pC pA) fun pE=>
   newB pE (.cells [.nils,.nils]) fun pF pG=>
   bd (fadrV 0 p0) fun pH=>
   bd (ldV pG pH 1 false) fun pI=>
   bd (lensV pI) fun pJ=>
   Lp G b17_0 [x0,p0,p1,(.int .i64 0),p4,pC,pF,undefV,undefV,undefV,undefV,p3,p4,p4,p6,undefV,undefV,p9,pA,pH,pI,pJ,(.int .i64 0),undefV,undefV,undefV,undefV,undefV,undefV,undefV,undefV,undefV,undefV,undefV,undefV,undefV,undefV,undefV,undefV,undefV,undefV,undefV,undefV,undefV,undefV,undefV,undefV,undefV,undefV,undefV,undefV,undefV,undefV,undefV,undefV,undefV,undefV,undefV] pG (blockQ 0 (seqQ G r17_1 (retQ i17 k))))) := by kernel_rfl
@[simp] theorem ret17 : retQ i17 k .r (z) H = bd (resultV (z) H [.cell 2 2 true,.t 3]) fun v => k v H := nrfl
theorem wb17_0 : wp G b17_0 (x0::x1::x2::x3::x4::x5::x6::x7::x8::x9::aA::aB::aC::aD::aE::aF::aG::aH::aI::aJ::aK::aL::aM::aN::aO::aP::aQ::aR::aS::aT::aU::aV::aW::aX::aY::aZ::cA::cB::cC::z) H Q = (
  bd (binV .lss aM aL) fun p0=>
  ifB p0
   (bd (iadrV 4 aK aM) fun p1=>
   bd (ldV H p1 4 true) fun p2=>
   newB H (.cells [(.str []),(.int .i64 0),(.str []),.nils]) fun p3 p4=>
   true = true ∧ bd (stV p4 4 p3 p2) fun p5=>
   bd (fadrV 3 p3) fun p6=>
   bd (ldV p5 p6 1 false) fun p7=>
   (true || G.pur 48) = true ∧ Cl G 48 [p7] p5 fun p8 p9=>
   (true || G.pur 47) = true ∧ Cl G 47 [p8,(.fn 49 [p3,x5])] p9 fun pA pB=>
   bd (fadrV 3 p3) fun pC=>
   true = true ∧ bd (stV pB 1 pC pA) fun pD=>
   bd (fadrV 0 x6) fun pE=>
   bd (ldV pD pE 1 false) fun pF=>
   bd (ldV pD p3 4 true) fun pG=>
   bd2 (bslV 4 1 [(.str []),(.int .i64 0),(.str []),.nils] [(0,4,pG)] pD) fun pH pI=>
   bd2 (appV 4 64 true pI pF pH) fun pJ pK=>
   bd (fadrV 0 x6) fun pL=>
   true = true ∧ bd (stV pK 1 pL pJ) fun pM=>
   bd (binV .add aM (.int .i64 1)) fun pN=>
   Q .n (x0::x1::x2::x3::x4::x5::x6::x7::p3::x9::aA::aB::aC::aD::aE::aF::aG::aH::aI::aJ::aK::aL::pN::p0::p1::p2::p6::p7::p8::(.fn 49 [p3,x5])::pA::pC::pE::pF::pG::pH::pJ::pL::pN::z) pM)
   (Q (.e 0) (x0::x1::x2::x3::x4::x5::x6::x7::x8::x9::aA::aB::aC::aD::aE::aF::aG::aH::aI::aJ::aK::aL::aM::p0::aO::aP::aQ::aR::aS::aT::aU::aV::aW::aX::aY::aZ::cA::cB::cC::z) H)) := by kernel_rfl
def Sb17_0 (I : Nat → V → V → V → V → V → V → V → Heap → Prop) : Nat → List V → Heap → Prop := fun i ts H => ts.length = 58 ∧ I i (ts.getD 1 undefV) (ts.getD 2 undefV) (ts.getD 5 undefV) (ts.getD 6 undefV) (ts.getD 20 undefV) (ts.getD 21 undefV) (ts.getD 22 undefV) H
@[simp] theorem Sb17_0_eq {I : Nat → V → V → V → V → V → V → V → Heap → Prop} {i : Nat} : Sb17_0 I i [x0,x1,x2,x3,x4,x5,x6,x7,x8,x9,aA,aB,aC,aD,aE,aF,aG,aH,aI,aJ,aK,aL,aM,aN,aO,aP,aQ,aR,aS,aT,aU,aV,aW,aX,aY,aZ,cA,cB,cC,cD,cE,cF,cG,cH,cI,cJ,cK,cL,cM,cN,cO,cP,cQ,cR,cS,cT,cU,cV] H = I i x1 x2 x5 x6 aK aL aM H := propext ⟨fun h => h.2,fun h => ⟨rfl,h⟩⟩
theorem ub17_0 (M : Nat) (I : Nat → V → V → V → V → V → V → V → Heap → Prop) (step : ∀ i,i ≤ M → ∀ (x1 x2 x5 x6 aK aL aM : V) (H : Heap),I i x1 x2 x5 x6 aK aL aM H → ∀ (x0 x3 x4 x7 x8 x9 aA aB aC aD aE aF aG aH aI aJ aN aO aP aQ aR aS aT aU aV aW aX aY aZ cA cB cC cD cE cF cG cH cI cJ cK cL cM cN cO cP cQ cR cS cT cU cV : V),wp G b17_0 [x0,x1,x2,x3,x4,x5,x6,x7,x8,x9,aA,aB,aC,aD,aE,aF,aG,aH,aI,aJ,aK,aL,aM,aN,aO,aP,aQ,aR,aS,aT,aU,aV,aW,aX,aY,aZ,cA,cB,cC,cD,cE,cF,cG,cH,cI,cJ,cK,cL,cM,cN,cO,cP,cQ,cR,cS,cT,cU,cV] H (upQ M (Sb17_0 I) i Q)) (i : Nat) (hi : i ≤ M) (h : I i x1 x2 x5 x6 aK aL aM H) : Lp G b17_0 [x0,x1,x2,x3,x4,x5,x6,x7,x8,x9,aA,aB,aC,aD,aE,aF,aG,aH,aI,aJ,aK,aL,aM,aN,aO,aP,aQ,aR,aS,aT,aU,aV,aW,aX,aY,aZ,cA,cB,cC,cD,cE,cF,cG,cH,cI,cJ,cK,cL,cM,cN,cO,cP,cQ,cR,cS,cT,cU,cV] H Q :=
  Lp.up (S := Sb17_0 I) (fun i t H hi hS => (congrArg (fun t => wp G b17_0 t H (upQ M (Sb17_0 I) i Q)) (tabF_eq hS.1)).mpr (step i hi _ _ _ _ _ _ _ H hS.2 ..)) _ i _ H rfl hi ⟨rfl,h⟩
theorem wr17_1 : wp G r17_1 (x0::x1::x2::x3::x4::x5::x6::x7::x8::x9::aA::aB::aC::aD::aE::aF::aG::aH::aI::aJ::aK::aL::aM::aN::aO::aP::aQ::aR::aS::aT::aU::aV::aW::aX::aY::aZ::cA::cB::cC::cD::cE::cF::cG::z) H Q = (
  bd (fadrV 1 x1) fun p0=>
  bd (ldV H p0 1 false) fun p1=>
  bd (lensV p1) fun p2=>
  Lp G b17_2 (x0::x1::x2::x3::x4::x5::x6::x7::x8::x9::aA::aB::aC::aD::aE::aF::aG::aH::aI::aJ::aK::aL::aM::aN::aO::aP::aQ::aR::aS::aT::aU::aV::aW::aX::aY::aZ::cA::cB::cC::p0::p1::p2::(.int .i64 0)::z) H (blockQ 2 (seqQ G r17_3 Q))) := by kernel_rfl
theorem wb17_2 : wp G b17_2 [x0,x1,x2,x3,x4,x5,x6,x7,x8,x9,aA,aB,aC,aD,aE,aF,aG,aH,aI,aJ,aK,aL,aM,aN,aO,aP,aQ,aR,aS,aT,aU,aV,aW,aX,aY,aZ,cA,cB,cC,cD,cE,cF,cG,cH,cI,cJ,cK,cL,cM,cN,cO,cP,cQ,cR,cS,cT,cU,cV] H Q = (
  bd (binV .lss cG cF) fun p0=>
  ifB p0
   (bd (iadrV 2 cE cG) fun p1=>
   bd (ldV H p1 2 true) fun p2=>
   newB H (.cells [(.str []),.nils]) fun p3 p4=>
   true = true ∧ bd (stV p4 2 p3 p2) fun p5=>
   bd (fadrV 1 p3) fun p6=>
   bd (ldV p5 p6 1 false) fun p7=>
   (true || G.pur 52) = true ∧ Cl G 52 [p7] p5 fun p8 p9=>
   bd (fadrV 1 p3) fun pA=>
   true = true ∧ bd (stV p9 1 pA p8) fun pB=>
   bd (fadrV 1 x6) fun pC=>
   bd (ldV pB pC 1 false) fun pD=>
   bd (ldV pB p3 2 true) fun pE=>
   bd2 (bslV 2 1 [(.str []),.nils] [(0,2,pE)] pB) fun pF pG=>
   bd2 (appV 2 40 true pG pD pF) fun pH pI=>
   bd (fadrV 1 x6) fun pJ=>
   true = true ∧ bd (stV pI 1 pJ pH) fun pK=>
   bd (binV .add cG (.int .i64 1)) fun pL=>
   Q .n [x0,x1,x2,x3,x4,x5,x6,x7,x8,x9,p3,aB,aC,aD,aE,aF,aG,aH,aI,aJ,aK,aL,aM,aN,aO,aP,aQ,aR,aS,aT,aU,aV,aW,aX,aY,aZ,cA,cB,cC,cD,cE,cF,pL,p0,p1,p2,p6,p7,p8,pA,pC,pD,pE,pF,pH,pJ,pL,cV] pK)
   (Q (.e 2) [x0,x1,x2,x3,x4,x5,x6,x7,x8,x9,aA,aB,aC,aD,aE,aF,aG,aH,aI,aJ,aK,aL,aM,aN,aO,aP,aQ,aR,aS,aT,aU,aV,aW,aX,aY,aZ,cA,cB,cC,cD,cE,cF,cG,p0,cI,cJ,cK,cL,cM,cN,cO,cP,cQ,cR,cS,cT,cU,cV] H)) := by kernel_rfl
def Sb17_2 (I : Nat → V → V → V → V → V → Heap → Prop) : Nat → List V → Heap → Prop := fun i ts H => ts.length = 58 ∧ I i (ts.getD 2 undefV) (ts.getD 6 undefV) (ts.getD 40 undefV) (ts.getD 41 undefV) (ts.getD 42 undefV) H
@[simp] theorem Sb17_2_eq {I : Nat → V → V → V → V → V → Heap → Prop} {i : Nat} : Sb17_2 I i [x0,x1,x2,x3,x4,x5,x6,x7,x8,x9,aA,aB,aC,aD,aE,aF,aG,aH,aI,aJ,aK,aL,aM,aN,aO,aP,aQ,aR,aS,aT,aU,aV,aW,aX,aY,aZ,cA,cB,cC,cD,cE,cF,cG,cH,cI,cJ,cK,cL,cM,cN,cO,cP,cQ,cR,cS,cT,cU,cV] H = I i x2 x6 cE cF cG H := propext ⟨fun h => h.2,fun h => ⟨rfl,h⟩⟩
theorem ub17_2 (M : Nat) (I : Nat → V → V → V → V → V → Heap → Prop) (step : ∀ i,i ≤ M → ∀ (x2 x6 cE cF cG : V) (H : Heap),I i x2 x6 cE cF cG H → ∀ (x0 x1 x3 x4 x5 x7 x8 x9 aA aB aC aD aE aF aG aH aI aJ aK aL aM aN aO aP aQ aR aS aT aU aV aW aX aY aZ cA cB cC cD cH cI cJ cK cL cM cN cO cP cQ cR cS cT cU cV : V),wp G b17_2 [x0,x1,x2,x3,x4,x5,x6,x7,x8,x9,aA,aB,aC,aD,aE,aF,aG,aH,aI,aJ,aK,aL,aM,aN,aO,aP,aQ,aR,aS,aT,aU,aV,aW,aX,aY,aZ,cA,cB,cC,cD,cE,cF,cG,cH,cI,cJ,cK,cL,cM,cN,cO,cP,cQ,cR,cS,cT,cU,cV] H (upQ M (Sb17_2 I) i Q)) (i : Nat) (hi : i ≤ M) (h : I i x2 x6 cE cF cG H) : Lp G b17_2 [x0,x1,x2,x3,x4,x5,x6,x7,x8,x9,aA,aB,aC,aD,aE,aF,aG,aH,aI,aJ,aK,aL,aM,aN,aO,aP,aQ,aR,aS,aT,aU,aV,aW,aX,aY,aZ,cA,cB,cC,cD,cE,cF,cG,cH,cI,cJ,cK,cL,cM,cN,cO,cP,cQ,cR,cS,cT,cU,cV] H Q :=
  Lp.up (S := Sb17_2 I) (fun i t H hi hS => (congrArg (fun t => wp G b17_2 t H (upQ M (Sb17_2 I) i Q)) (tabF_eq hS.1)).mpr (step i hi _ _ _ _ _ H hS.2 ..)) _ i _ H rfl hi ⟨rfl,h⟩
theorem wr17_3 : wp G r17_3 [x0,x1,x2,x3,x4,x5,x6,x7,x8,x9,aA,aB,aC,aD,aE,aF,aG,aH,aI,aJ,aK,aL,aM,aN,aO,aP,aQ,aR,aS,aT,aU,aV,aW,aX,aY,aZ,cA,cB,cC,cD,cE,cF,cG,cH,cI,cJ,cK,cL,cM,cN,cO,cP,cQ,cR,cS,cT,cU,cV] H Q = (
  bd (ldV H x6 2 true) fun p0=>
  true = true ∧ bd (stV H 2 x2 p0) fun p1=>
  Q .r [x0,x1,x2,(.int .i64 0),x4,x5,x6,x7,x8,x9,aA,aB,aC,aD,aE,aF,aG,aH,aI,aJ,aK,aL,aM,aN,aO,aP,aQ,aR,aS,aT,aU,aV,aW,aX,aY,aZ,cA,cB,cC,cD,cE,cF,cG,cH,cI,cJ,cK,cL,cM,cN,cO,cP,cQ,cR,cS,cT,cU,p0] p1) := by kernel_rfl
theorem w24 : runW G i24 [x0,x1] H k = (
  bd (bxrV x0) fun p0=>
  Lp G b24_0 [x0,x1,p0,undefV,.nils,.nils,(.int .i64 0),undefV,undefV,undefV,undefV,undefV,undefV,undefV,undefV,undefV,undefV,undefV,undefV,undefV,undefV,undefV,undefV,undefV,undefV,undefV,undefV,undefV,undefV,undefV,undefV] H (blockQ 0 (seqQ G r24_2 (retQ i24 k)))) := by kernel_rfl
@[simp] theorem ret24 : retQ i24 k .r (x0::x1::x2::x3::x4::z) H = k x4 H := nrfl
theorem wb24_0 : wp G b24_0 [x0,x1,x2,x3,x4,x5,x6,x7,x8,x9,aA,aB,aC,aD,aE,aF,aG,aH,aI,aJ,aK,aL,aM,aN,aO,aP,aQ,aR,aS,aT,aU] H Q = (
  bd (fadrV 1 x2) fun p0=>
  bd (ldV H p0 1 false) fun p1=>
  bd (lensV p1) fun p2=>
  bd (binV .lss x6 p2) fun p3=>
  ifB p3
   (bd (fadrV 1 x2) fun p4=>
   bd (ldV H p4 1 false) fun p5=>
   bd (iadrV 2 p5 x6) fun p6=>
   bd (ldV H p6 2 true) fun p7=>
   bd (fadrV 0 x2) fun p8=>
   bd (ldV H p8 1 false) fun p9=>
   bd (iadrV 4 p9 x1) fun pA=>
   bd (fadrV 2 pA) fun pB=>
   bd (ldV H pB 1 false) fun pC=>
   (true || G.pur 55) = true ∧ Cl G 55 [p7,pC] H fun pD pE=>
   ifB pD
    (bd2 (bslV 1 1 [(.int .i64 0)] [(0,1,x6)] pE) fun pF pG=>
    bd2 (appV 1 8 true pG x5 pF) fun pH pI=>
    wp G r24_1 [x0,x1,x2,x3,x4,pH,x6,x6,p0,p1,p2,p3,aC,aD,p4,p5,x6,p6,p7,p8,p9,x1,pA,pB,pC,pD,x5,x6,pF,pH,aU] pI Q)
    (wp G r24_1 [x0,x1,x2,x3,x4,x5,x6,x6,p0,p1,p2,p3,aC,aD,p4,p5,x6,p6,p7,p8,p9,x1,pA,pB,pC,pD,aQ,aR,aS,aT,aU] pE Q))
   (Q (.e 0) [x0,x1,x2,x3,x4,x5,x6,x6,p0,p1,p2,p3,aC,aD,aE,aF,aG,aH,aI,aJ,aK,aL,aM,aN,aO,aP,aQ,aR,aS,aT,aU] H)) := by kernel_rfl
def Sb24_0 (I : Nat → V → V → V → V → Heap → Prop) : Nat → List V → Heap → Prop := fun i ts H => ts.length = 31 ∧ I i (ts.getD 1 undefV) (ts.getD 2 undefV) (ts.getD 5 undefV) (ts.getD 6 undefV) H
@[simp] theorem Sb24_0_eq {I : Nat → V → V → V → V → Heap → Prop} {i : Nat} : Sb24_0 I i [x0,x1,x2,x3,x4,x5,x6,x7,x8,x9,aA,aB,aC,aD,aE,aF,aG,aH,aI,aJ,aK,aL,aM,aN,aO,aP,aQ,aR,aS,aT,aU] H = I i x1 x2 x5 x6 H := propext ⟨fun h => h.2,fun h => ⟨rfl,h⟩⟩
theorem ub24_0 (M : Nat) (I : Nat → V → V → V → V → Heap → Prop) (step : ∀ i,i ≤ M → ∀ (x1 x2 x5 x6 : V) (H : Heap),I i x1 x2 x5 x6 H → ∀ (x0 x3 x4 x7 x8 x9 aA aB aC aD aE aF aG aH aI aJ aK aL aM aN aO aP aQ aR aS aT aU : V),wp G b24_0 [x0,x1,x2,x3,x4,x5,x6,x7,x8,x9,aA,aB,aC,aD,aE,aF,aG,aH,aI,aJ,aK,aL,aM,aN,aO,aP,aQ,aR,aS,aT,aU] H (upQ M (Sb24_0 I) i Q)) (i : Nat) (hi : i ≤ M) (h : I i x1 x2 x5 x6 H) : Lp G b24_0 [x0,x1,x2,x3,x4,x5,x6,x7,x8,x9,aA,aB,aC,aD,aE,aF,aG,aH,aI,aJ,aK,aL,aM,aN,aO,aP,aQ,aR,aS,aT,aU] H Q :=
  Lp.up (S := Sb24_0 I) (fun i t H hi hS => (congrArg (fun t => wp G b24_0 t H (upQ M (Sb24_0 I) i Q)) (tabF_eq hS.1)).mpr (step i hi _ _ _ _ H hS.2 ..)) _ i _ H rfl hi ⟨rfl,h⟩
theorem wr24_1 : wp G r24_1 (x0::x1::x2::x3::x4::x5::x6::x7::x8::x9::aA::aB::aC::aD::z) H Q = (
  bd (binV .add x6 (.int .i64 1)) fun p0=>
  Q .n (x0::x1::x2::x3::x4::x5::p0::x7::x8::x9::aA::aB::x6::p0::z) H) := by kernel_rfl
theorem wr24_2 : wp G r24_2 [x0,x1,x2,x3,x4,x5,x6,x7,x8,x9,aA,aB,aC,aD,aE,aF,aG,aH,aI,aJ,aK,aL,aM,aN,aO,aP,aQ,aR,aS,aT,aU] H Q = (
  Q .r [x0,x1,x2,x3,x5,x5,x6,x7,x8,x9,aA,aB,aC,aD,aE,aF,aG,aH,aI,aJ,aK,aL,aM,aN,aO,aP,aQ,aR,aS,aT,x5] H) := by kernel_rfl
theorem w25 : runW G i25 [x0] H k = (
  bd (bxrV x0) fun p0=>
  bd (ldV H p0 2 true) fun p1=>
  (true || G.pur 29) = true ∧ Cl G 29 [p1] H fun p2 p3=>
  bd (binV .neq p2 (.int .i64 0)) fun p4=>
  ifB p4
   (k (.tup [.nils,p2]) p3)
   (bd (ldV p3 p0 2 true) fun p5=>
   (true || G.pur 56) = true ∧ Cl G 56 [p5] p3 fun p6 p7=>
   k (.tup [p6,(.int .i64 0)]) p7)) := by kernel_rfl
theorem w26 : runW G i26 [x0] H k = (
  bd (bxrV x0) fun p0=>
  bd (ldV H p0 2 true) fun p1=>
  (true || G.pur 29) = true ∧ Cl G 29 [p1] H fun p2 p3=>
  bd (binV .neq p2 (.int .i64 0)) fun p4=>
  ifB p4
   (k (.tup [.nils,p2]) p3)
   (bd (ldV p3 p0 2 true) fun p5=>
   (true || G.pur 46) = true ∧ Cl G 46 [p5] p3 fun p6 p7=>
   bd (lensV p6) fun p8=>
   Lp G b26_0 [x0,p0,.nils,(.int .i64 0),p2,.nils,undefV,undefV,undefV,undefV,undefV,p1,p2,p2,p4,undefV,p5,p6,p8,(.int .i64 0),undefV,undefV,undefV,undefV,undefV,undefV,undefV,undefV,undefV,undefV,undefV,undefV,undefV,undefV,undefV,undefV,undefV,undefV,undefV,undefV,undefV,undefV] p7 (blockQ 0 (seqQ G r26_5 (retQ i26 k))))) := by kernel_rfl
@[simp] theorem ret26 : retQ i26 k .r (x0::x1::x2::x3::z) H = k (.tup [x2,x3]) H := nrfl
theorem wb26_0 : wp G b26_0 (x0::x1::x2::x3::x4::x5::x6::x7::x8::x9::aA::aB::aC::aD::aE::aF::aG::aH::aI::aJ::aK::aL::aM::aN::aO::aP::z) H Q = (
  bd (binV .lss aJ aI) fun p0=>
  ifB p0
   (bd (iadrV 1 aH aJ) fun p1=>
   bd (ldV H p1 1 false) fun p2=>
   bd (lensV p2) fun p3=>
   Lp G b26_1 (x0::x1::x2::x3::x4::x5::x6::p2::.nils::x9::aA::aB::aC::aD::aE::aF::aG::aH::aI::aJ::p0::p1::p2::p2::p3::(.int .i64 0)::z) H (blockQ 2 (seqQ G r26_3 (blockQ 1 (seqQ G r26_4 Q)))))
   (Q (.e 0) (x0::x1::x2::x3::x4::x5::x6::x7::x8::x9::aA::aB::aC::aD::aE::aF::aG::aH::aI::aJ::p0::aL::aM::aN::aO::aP::z) H)) := by kernel_rfl
def Sb26_0 (I : Nat → V → V → V → V → Heap → Prop) : Nat → List V → Heap → Prop := fun i ts H => ts.length = 42 ∧ I i (ts.getD 5 undefV) (ts.getD 17 undefV) (ts.getD 18 undefV) (ts.getD 19 undefV) H
@[simp] theorem Sb26_0_eq {I : Nat → V → V → V → V → Heap → Prop} {i : Nat} : Sb26_0 I i [x0,x1,x2,x3,x4,x5,x6,x7,x8,x9,aA,aB,aC,aD,aE,aF,aG,aH,aI,aJ,aK,aL,aM,aN,aO,aP,aQ,aR,aS,aT,aU,aV,aW,aX,aY,aZ,cA,cB,cC,cD,cE,cF] H = I i x5 aH aI aJ H := propext ⟨fun h => h.2,fun h => ⟨rfl,h⟩⟩
theorem ub26_0 (M : Nat) (I : Nat → V → V → V → V → Heap → Prop) (step : ∀ i,i ≤ M → ∀ (x5 aH aI aJ : V) (H : Heap),I i x5 aH aI aJ H → ∀ (x0 x1 x2 x3 x4 x6 x7 x8 x9 aA aB aC aD aE aF aG aK aL aM aN aO aP aQ aR aS aT aU aV aW aX aY aZ cA cB cC cD cE cF : V),wp G b26_0 [x0,x1,x2,x3,x4,x5,x6,x7,x8,x9,aA,aB,aC,aD,aE,aF,aG,aH,aI,aJ,aK,aL,aM,aN,aO,aP,aQ,aR,aS,aT,aU,aV,aW,aX,aY,aZ,cA,cB,cC,cD,cE,cF] H (upQ M (Sb26_0 I) i Q)) (i : Nat) (hi : i ≤ M) (h : I i x5 aH aI aJ H) : Lp G b26_0 [x0,x1,x2,x3,x4,x5,x6,x7,x8,x9,aA,aB,aC,aD,aE,aF,aG,aH,aI,aJ,aK,aL,aM,aN,aO,aP,aQ,aR,aS,aT,aU,aV,aW,aX,aY,aZ,cA,cB,cC,cD,cE,cF] H Q :=
  Lp.up (S := Sb26_0 I) (fun i t H hi hS => (congrArg (fun t => wp G b26_0 t H (upQ M (Sb26_0 I) i Q)) (tabF_eq hS.1)).mpr (step i hi _ _ _ _ H hS.2 ..)) _ i _ H rfl hi ⟨rfl,h⟩
theorem wb26_1 : wp G b26_1 (x0::x1::x2::x3::x4::x5::x6::x7::x8::x9::aA::aB::aC::aD::aE::aF::aG::aH::aI::aJ::aK::aL::aM::aN::aO::aP::aQ::aR::aS::aT::aU::aV::aW::aX::aY::z) H Q = (
  bd (binV .lss aP aO) fun p0=>
  ifB p0
   (bd (iadrV 1 aN aP) fun p1=>
   bd (ldV H p1 1 false) fun p2=>
   ifB p2
    (bd2 (bslV 1 1 [(.int .i64 0)] [(0,1,aP)] H) fun p3 p4=>
    bd2 (appV 1 8 true p4 x8 p3) fun p5 p6=>
    wp G r26_2 (x0::x1::x2::x3::x4::x5::x6::x7::p5::aP::p2::aB::aC::aD::aE::aF::aG::aH::aI::aJ::aK::aL::aM::aN::aO::aP::p0::aP::p1::p2::p2::x8::aP::p3::p5::z) p6 Q)
    (wp G r26_2 (x0::x1::x2::x3::x4::x5::x6::x7::x8::aP::p2::aB::aC::aD::aE::aF::aG::aH::aI::aJ::aK::aL::aM::aN::aO::aP::p0::aP::p1::p2::p2::aV::aW::aX::aY::z) H Q))
   (Q (.e 2) (x0::x1::x2::x3::x4::x5::x6::x7::x8::x9::aA::aB::aC::aD::aE::aF::aG::aH::aI::aJ::aK::aL::aM::aN::aO::aP::p0::aR::aS::aT::aU::aV::aW::aX::aY::z) H)) := by kernel_rfl
def Sb26_1 (I : Nat → V → V → V → V → V → V → V → V → Heap → Prop) : Nat → List V → Heap → Prop := fun i ts H => ts.length = 42 ∧ I i (ts.getD 5 undefV) (ts.getD 8 undefV) (ts.getD 17 undefV) (ts.getD 18 undefV) (ts.getD 19 undefV) (ts.getD 23 undefV) (ts.getD 24 undefV) (ts.getD 25 undefV) H
@[simp] theorem Sb26_1_eq {I : Nat → V → V → V → V → V → V → V → V → Heap → Prop} {i : Nat} : Sb26_1 I i [x0,x1,x2,x3,x4,x5,x6,x7,x8,x9,aA,aB,aC,aD,aE,aF,aG,aH,aI,aJ,aK,aL,aM,aN,aO,aP,aQ,aR,aS,aT,aU,aV,aW,aX,aY,aZ,cA,cB,cC,cD,cE,cF] H = I i x5 x8 aH aI aJ aN aO aP H := propext ⟨fun h => h.2,fun h => ⟨rfl,h⟩⟩
theorem ub26_1 (M : Nat) (I : Nat → V → V → V → V → V → V → V → V → Heap → Prop) (step : ∀ i,i ≤ M → ∀ (x5 x8 aH aI aJ aN aO aP : V) (H : Heap),I i x5 x8 aH aI aJ aN aO aP H → ∀ (x0 x1 x2 x3 x4 x6 x7 x9 aA aB aC aD aE aF aG aK aL aM aQ aR aS aT aU aV aW aX aY aZ cA cB cC cD cE cF : V),wp G b26_1 [x0,x1,x2,x3,x4,x5,x6,x7,x8,x9,aA,aB,aC,aD,aE,aF,aG,aH,aI,aJ,aK,aL,aM,aN,aO,aP,aQ,aR,aS,aT,aU,aV,aW,aX,aY,aZ,cA,cB,cC,cD,cE,cF] H (upQ M (Sb26_1 I) i Q)) (i : Nat) (hi : i ≤ M) (h : I i x5 x8 aH aI aJ aN aO aP H) : Lp G b26_1 [x0,x1,x2,x3,x4,x5,x6,x7,x8,x9,aA,aB,aC,aD,aE,aF,aG,aH,aI,aJ,aK,aL,aM,aN,aO,aP,aQ,aR,aS,aT,aU,aV,aW,aX,aY,aZ,cA,cB,cC,cD,cE,cF] H Q :=
  Lp.up (S := Sb26_1 I) (fun i t H hi hS => (congrArg (fun t => wp G b26_1 t H (upQ M (Sb26_1 I) i Q)) (tabF_eq hS.1)).mpr (step i hi _ _ _ _ _ _ _ _ H hS.2 ..)) _ i _ H rfl hi ⟨rfl,h⟩
theorem wr26_2 : wp G r26_2 (x0::x1::x2::x3::x4::x5::x6::x7::x8::x9::aA::aB::aC::aD::aE::aF::aG::aH::aI::aJ::aK::aL::aM::aN::aO::aP::aQ::aR::aS::aT::aU::aV::aW::aX::aY::aZ::z) H Q = (
  bd (binV .add aP (.int .i64 1)) fun p0=>
  Q .n (x0::x1::x2::x3::x4::x5::x6::x7::x8::x9::aA::aB::aC::aD::aE::aF::aG::aH::aI::aJ::aK::aL::aM::aN::aO::p0::aQ::aR::aS::aT::aU::aV::aW::aX::aY::p0::z) H) := by kernel_rfl
theorem wr26_3 : wp G r26_3 (x0::x1::x2::x3::x4::x5::x6::x7::x8::x9::aA::aB::aC::aD::aE::aF::aG::aH::aI::aJ::aK::aL::aM::aN::aO::aP::aQ::aR::aS::aT::aU::aV::aW::aX::aY::aZ::cA::cB::cC::cD::z) H Q = (
  bd2 (bslV 1 1 [.nils] [(0,1,x8)] H) fun p0 p1=>
  bd2 (appV 1 24 true p1 x5 p0) fun p2 p3=>
  Q .n (x0::x1::x2::x3::x4::p2::x6::x7::x8::x9::aA::aB::aC::aD::aE::aF::aG::aH::aI::aJ::aK::aL::aM::aN::aO::aP::aQ::aR::aS::aT::aU::aV::aW::aX::aY::aZ::x5::x8::p0::p2::z) p3) := by kernel_rfl
theorem wr26_4 : wp G r26_4 [x0,x1,x2,x3,x4,x5,x6,x7,x8,x9,aA,aB,aC,aD,aE,aF,aG,aH,aI,aJ,aK,aL,aM,aN,aO,aP,aQ,aR,aS,aT,aU,aV,aW,aX,aY,aZ,cA,cB,cC,cD,cE,cF] H Q = (
  bd (binV .add aJ (.int .i64 1)) fun p0=>
  Q .n [x0,x1,x2,x3,x4,x5,x6,x7,x8,x9,aA,aB,aC,aD,aE,aF,aG,aH,aI,p0,aK,aL,aM,aN,aO,aP,aQ,aR,aS,aT,aU,aV,aW,aX,aY,aZ,cA,cB,cC,cD,p0,cF] H) := by kernel_rfl
theorem wr26_5 : wp G r26_5 [x0,x1,x2,x3,x4,x5,x6,x7,x8,x9,aA,aB,aC,aD,aE,aF,aG,aH,aI,aJ,aK,aL,aM,aN,aO,aP,aQ,aR,aS,aT,aU,aV,aW,aX,aY,aZ,cA,cB,cC,cD,cE,cF] H Q = (
  Q .r [x0,x1,x5,(.int .i64 0),x4,x5,x6,x7,x8,x9,aA,aB,aC,aD,aE,aF,aG,aH,aI,aJ,aK,aL,aM,aN,aO,aP,aQ,aR,aS,aT,aU,aV,aW,aX,aY,aZ,cA,cB,cC,cD,cE,x5] H) := by kernel_rfl
theorem w29 : runW G i29 [x0] H k = (
  bd (bxrV x0) fun p0=>
  bd (fadrV 0 p0) fun p1=>
  bd (ldV H p1 1 false) fun p2=>
  bd (lensV p2) fun p3=>
  bd (binV .gtr p3 (.int .i64 24)) fun p4=>
  wpg (gdV p4 false) H (fun k => bd (fadrV 1 p0) fun p5 => k p5 H) fun p6 p7=>
  wpg (gdV p4 false) p7 (fun k => bd (ldV p7 p6 1 false) fun p8 => k p8 p7) fun p9 pA=>
  wpg (gdV p4 false) pA (fun k => bd (lensV p9) fun pB => k pB pA) fun pC pD=>
  wpg (gdV p4 false) pD (fun k => bd (binV .gtr pC (.int .i64 8)) fun pE => k pE pD) fun pF pG=>
  bd (pickV p4 (.bool true) pF) fun pH=>
  ifB pH
   (k (.int .i64 6) pG)
   (bd (fadrV 0 p0) fun pI=>
   bd (ldV pG pI 1 false) fun pJ=>
   bd (lensV pJ) fun pK=>
   Lp G b29_0 (x0::p0::(.int .i64 0)::undefV::undefV::undefV::undefV::undefV::undefV::undefV::p1::p2::p3::p4::p4::p6::p9::pC::pF::pH::pI::pJ::pK::(.int .i64 0)::undefV::undefV::undefV::undefV::undefV::undefV::undefV::undefV::undefV::undefV::undefV::undefV::undefV::undefV::undefV::undefV::undefV::undefV::undefV::undefV::undefV::undefV::undefV::undefV::undefV::undefV::undefV::undefV::undefV::undefV::undefV::undefV::undefV::undefV::undefV::undefV::undefV::undefV::undefV::undefV::undefV::undefV::undefV::undefV::undefV::[]) pG (blockQ 0 (seqQ G r29_1 (retQ i29 k))))) := by kernel_rfl
@[simp] theorem ret29 : retQ i29 k .r (x0::x1::x2::z) H = k x2 H := nrfl
theorem wb29_0 : wp G b29_0 (x0::x1::x2::x3::x4::x5::x6::x7::x8::x9::aA::aB::aC::aD::aE::aF::aG::aH::aI::aJ::aK::aL::aM::aN::aO::aP::aQ::aR::aS::aT::aU::aV::aW::z) H Q = (
  bd (binV .lss aN aM) fun p0=>
  ifB p0
   (bd (ldV H x1 2 true) fun p1=>
   (true || G.pur 57) = true ∧ Cl G 57 [p1,aN] H fun p2 p3=>
   bd (binV .neq p2 (.int .i64 0)) fun p4=>
   ifB p4
    (Q .r (x0::x1::p2::aN::p2::x5::x6::x7::x8::x9::aA::aB::aC::aD::aE::aF::aG::aH::aI::aJ::aK::aL::aM::aN::p0::aN::p1::aN::p2::p2::p4::p2::aW::z) p3)
    (bd (binV .add aN (.int .i64 1)) fun p5=>
    Q .n (x0::x1::x2::aN::p2::x5::x6::x7::x8::x9::aA::aB::aC::aD::aE::aF::aG::aH::aI::aJ::aK::aL::aM::p5::p0::aN::p1::aN::p2::p2::p4::aV::p5::z) p3))
   (Q (.e 0) (x0::x1::x2::x3::x4::x5::x6::x7::x8::x9::aA::aB::aC::aD::aE::aF::aG::aH::aI::aJ::aK::aL::aM::aN::p0::aP::aQ::aR::aS::aT::aU::aV::aW::z) H)) := by kernel_rfl
def Sb29_0 (I : Nat → V → V → V → Heap → Prop) : Nat → List V → Heap → Prop := fun i ts H => ts.length = 69 ∧ I i (ts.getD 1 undefV) (ts.getD 22 undefV) (ts.getD 23 undefV) H
@[simp] theorem Sb29_0_eq {I : Nat → V → V → V → Heap → Prop} {i : Nat} : Sb29_0 I i (x0::x1::x2::x3::x4::x5::x6::x7::x8::x9::aA::aB::aC::aD::aE::aF::aG::aH::aI::aJ::aK::aL::aM::aN::aO::aP::aQ::aR::aS::aT::aU::aV::aW::aX::aY::aZ::cA::cB::cC::cD::cE::cF::cG::cH::cI::cJ::cK::cL::cM::cN::cO::cP::cQ::cR::cS::cT::cU::cV::cW::cX::cY::cZ::dA::dB::dC::dD::dE::dF::dG::[]) H = I i x1 aM aN H := propext ⟨fun h => h.2,fun h => ⟨rfl,h⟩⟩
theorem ub29_0 (M : Nat) (I : Nat → V → V → V → Heap → Prop) (step : ∀ i,i ≤ M → ∀ (x1 aM aN : V) (H : Heap),I i x1 aM aN H → ∀ (x0 x2 x3 x4 x5 x6 x7 x8 x9 aA aB aC aD aE aF aG aH aI aJ aK aL aO aP aQ aR aS aT aU aV aW aX aY aZ cA cB cC cD cE cF cG cH cI cJ cK cL cM cN cO cP cQ cR cS cT cU cV cW cX cY cZ dA dB dC dD dE dF dG : V),wp G b29_0 (x0::x1::x2::x3::x4::x5::x6::x7::x8::x9::aA::aB::aC::aD::aE::aF::aG::aH::aI::aJ::aK::aL::aM::aN::aO::aP::aQ::aR::aS::aT::aU::aV::aW::aX::aY::aZ::cA::cB::cC::cD::cE::cF::cG::cH::cI::cJ::cK::cL::cM::cN::cO::cP::cQ::cR::cS::cT::cU::cV::cW::cX::cY::cZ::dA::dB::dC::dD::dE::dF::dG::[]) H (upQ M (Sb29_0 I) i Q)) (i : Nat) (hi : i ≤ M) (h : I i x1 aM aN H) : Lp G b29_0 (x0::x1::x2::x3::x4::x5::x6::x7::x8::x9::aA::aB::aC::aD::aE::aF::aG::aH::aI::aJ::aK::aL::aM::aN::aO::aP::aQ::aR::aS::aT::aU::aV::aW::aX::aY::aZ::cA::cB::cC::cD::cE::cF::cG::cH::cI::cJ::cK::cL::cM::cN::cO::cP::cQ::cR::cS::cT::cU::cV::cW::cX::cY::cZ::dA::dB::dC::dD::dE::dF::dG::[]) H Q :=
  Lp.up (S := Sb29_0 I) (fun i t H hi hS => (congrArg (fun t => wp G b29_0 t H (upQ M (Sb29_0 I) i Q)) (tabF_eq hS.1)).mpr (step i hi _ _ _ H hS.2 ..)) _ i _ H rfl hi ⟨rfl,h⟩
theorem wr29_1 : wp G r29_1 (x0::x1::x2::x3::x4::x5::x6::x7::x8::x9::aA::aB::aC::aD::aE::aF::aG::aH::aI::aJ::aK::aL::aM::aN::aO::aP::aQ::aR::aS::aT::aU::aV::aW::aX::aY::aZ::cA::cB::cC::cD::cE::cF::cG::cH::z) H Q = (
  bd (ldV H x1 2 true) fun p0=>
  (false || G.pur 56) = true ∧ Cl G 56 [p0] H fun p1 p2=>
  bd (lensV p1) fun p3=>
  bd (fadrV 0 x1) fun p4=>
  bd (ldV p2 p4 1 false) fun p5=>
  bd (lensV p5) fun p6=>
  bd (binV .lss p3 p6) fun p7=>
  ifB p7
   (Q .r (x0::x1::(.int .i64 30)::x3::x4::x5::x6::x7::x8::x9::aA::aB::aC::aD::aE::aF::aG::aH::aI::aJ::aK::aL::aM::aN::aO::aP::aQ::aR::aS::aT::aU::aV::aW::p0::p1::p3::p4::p5::p6::p7::cE::cF::cG::cH::z) p2)
   (bd (fadrV 1 x1) fun p8=>
   bd (ldV p2 p8 1 false) fun p9=>
   bd (lensV p9) fun pA=>
   Lp G b29_2 (x0::x1::x2::x3::x4::x5::x6::x7::x8::x9::aA::aB::aC::aD::aE::aF::aG::aH::aI::aJ::aK::aL::aM::aN::aO::aP::aQ::aR::aS::aT::aU::aV::aW::p0::p1::p3::p4::p5::p6::p7::p8::p9::pA::(.int .i64 0)::z) p2 (blockQ 2 (seqQ G r29_3 Q)))) := by kernel_rfl
theorem wb29_2 : wp G b29_2 (x0::x1::x2::x3::x4::x5::x6::x7::x8::x9::aA::aB::aC::aD::aE::aF::aG::aH::aI::aJ::aK::aL::aM::aN::aO::aP::aQ::aR::aS::aT::aU::aV::aW::aX::aY::aZ::cA::cB::cC::cD::cE::cF::cG::cH::cI::cJ::cK::cL::cM::cN::cO::cP::cQ::z) H Q = (
  bd (binV .lss cH cG) fun p0=>
  ifB p0
   (bd (ldV H x1 2 true) fun p1=>
   (true || G.pur 58) = true ∧ Cl G 58 [p1,cH] H fun p2 p3=>
   bd (binV .neq p2 (.int .i64 0)) fun p4=>
   ifB p4
    (Q .r (x0::x1::p2::x3::x4::cH::p2::x7::x8::x9::aA::aB::aC::aD::aE::aF::aG::aH::aI::aJ::aK::aL::aM::aN::aO::aP::aQ::aR::aS::aT::aU::aV::aW::aX::aY::aZ::cA::cB::cC::cD::cE::cF::cG::cH::p0::cH::p1::cH::p2::p2::p4::p2::cQ::z) p3)
    (bd (binV .add cH (.int .i64 1)) fun p5=>
    Q .n (x0::x1::x2::x3::x4::cH::p2::x7::x8::x9::aA::aB::aC::aD::aE::aF::aG::aH::aI::aJ::aK::aL::aM::aN::aO::aP::aQ::aR::aS::aT::aU::aV::aW::aX::aY::aZ::cA::cB::cC::cD::cE::cF::cG::p5::p0::cH::p1::cH::p2::p2::p4::cP::p5::z) p3))
   (Q (.e 2) (x0::x1::x2::x3::x4::x5::x6::x7::x8::x9::aA::aB::aC::aD::aE::aF::aG::aH::aI::aJ::aK::aL::aM::aN::aO::aP::aQ::aR::aS::aT::aU::aV::aW::aX::aY::aZ::cA::cB::cC::cD::cE::cF::cG::cH::p0::cJ::cK::cL::cM::cN::cO::cP::cQ::z) H)) := by kernel_rfl
def Sb29_2 (I : Nat → V → V → V → Heap → Prop) : Nat → List V → Heap → Prop := fun i ts H => ts.length = 69 ∧ I i (ts.getD 1 undefV) (ts.getD 42 undefV) (ts.getD 43 undefV) H
@[simp] theorem Sb29_2_eq {I : Nat → V → V → V → Heap → Prop} {i : Nat} : Sb29_2 I i (x0::x1::x2::x3::x4::x5::x6::x7::x8::x9::aA::aB::aC::aD::aE::aF::aG::aH::aI::aJ::aK::aL::aM::aN::aO::aP::aQ::aR::aS::aT::aU::aV::aW::aX::aY::aZ::cA::cB::cC::cD::cE::cF::cG::cH::cI::cJ::cK::cL::cM::cN::cO::cP::cQ::cR::cS::cT::cU::cV::cW::cX::cY::cZ::dA::dB::dC::dD::dE::dF::dG::[]) H = I i x1 cG cH H := propext ⟨fun h => h.2,fun h => ⟨rfl,h⟩⟩
def Lb29_2 (x1 cG cH : V) (H : Heap) (Q : Cont) : Prop := ∀ (x0 x2 x3 x4 x5 x6 x7 x8 x9 aA aB aC aD aE aF aG aH aI aJ aK aL aM aN aO aP aQ aR aS aT aU aV aW aX aY aZ cA cB cC cD cE cF cI cJ cK cL cM cN cO cP cQ cR cS cT cU cV cW cX cY cZ dA dB dC dD dE dF dG : V),Lp G b29_2 (x0::x1::x2::x3::x4::x5::x6::x7::x8::x9::aA::aB::aC::aD::aE::aF::aG::aH::aI::aJ::aK::aL::aM::aN::aO::aP::aQ::aR::aS::aT::aU::aV::aW::aX::aY::aZ::cA::cB::cC::cD::cE::cF::cG::cH::cI::cJ::cK::cL::cM::cN::cO::cP::cQ::cR::cS::cT::cU::cV::cW::cX::cY::cZ::dA::dB::dC::dD::dE::dF::dG::[]) H Q
theorem ub29_2 (M : Nat) (I : Nat → V → V → V → Heap → Prop) (step : ∀ i,i ≤ M → ∀ (x1 cG cH : V) (H : Heap),I i x1 cG cH H → ∀ (x0 x2 x3 x4 x5 x6 x7 x8 x9 aA aB aC aD aE aF aG aH aI aJ aK aL aM aN aO aP aQ aR aS aT aU aV aW aX aY aZ cA cB cC cD cE cF cI cJ cK cL cM cN cO cP cQ cR cS cT cU cV cW cX cY cZ dA dB dC dD dE dF dG : V),wp G b29_2 (x0::x1::x2::x3::x4::x5::x6::x7::x8::x9::aA::aB::aC::aD::aE::aF::aG::aH::aI::aJ::aK::aL::aM::aN::aO::aP::aQ::aR::aS::aT::aU::aV::aW::aX::aY::aZ::cA::cB::cC::cD::cE::cF::cG::cH::cI::cJ::cK::cL::cM::cN::cO::cP::cQ::cR::cS::cT::cU::cV::cW::cX::cY::cZ::dA::dB::dC::dD::dE::dF::dG::[]) H (upQ M (Sb29_2 I) i Q)) (i : Nat) (hi : i ≤ M) (h : I i x1 cG cH H) : Lp G b29_2 (x0::x1::x2::x3::x4::x5::x6::x7::x8::x9::aA::aB::aC::aD::aE::aF::aG::aH::aI::aJ::aK::aL::aM::aN::aO::aP::aQ::aR::aS::aT::aU::aV::aW::aX::aY::aZ::cA::cB::cC::cD::cE::cF::cG::cH::cI::cJ::cK::cL::cM::cN::cO::cP::cQ::cR::cS::cT::cU::cV::cW::cX::cY::cZ::dA::dB::dC::dD::dE::dF::dG::[]) H Q :=
  Lp.up (S := Sb29_2 I) (fun i t H hi hS => (congrArg (fun t => wp G b29_2 t H (upQ M (Sb29_2 I) i Q)) (tabF_eq hS.1)).mpr (step i hi _ _ _ H hS.2 ..)) _ i _ H rfl hi ⟨rfl,h⟩
theorem wr29_3 : wp G r29_3 (x0::x1::x2::x3::x4::x5::x6::x7::x8::x9::aA::aB::aC::aD::aE::aF::aG::aH::aI::aJ::aK::aL::aM::aN::aO::aP::aQ::aR::aS::aT::aU::aV::aW::aX::aY::aZ::cA::cB::cC::cD::cE::cF::cG::cH::cI::cJ::cK::cL::cM::cN::cO::cP::cQ::cR::cS::cT::cU::cV::cW::z) H Q = (
  bd (ldV H x1 2 true) fun p0=>
  (true || G.pur 53) = true ∧ Cl G 53 [p0] H fun p1 p2=>
  bd (fadrV 0 x1) fun p3=>
  bd (ldV p2 p3 1 false) fun p4=>
  bd (lensV p4) fun p5=>
  Lp G b29_4 (x0::x1::x2::x3::x4::x5::x6::p1::x8::x9::aA::aB::aC::aD::aE::aF::aG::aH::aI::aJ::aK::aL::aM::aN::aO::aP::aQ::aR::aS::aT::aU::aV::aW::aX::aY::aZ::cA::cB::cC::cD::cE::cF::cG::cH::cI::cJ::cK::cL::cM::cN::cO::cP::cQ::p0::p1::p3::p4::p5::(.int .i64 0)::z) p2 (blockQ 4 (seqQ G r29_5 Q))) := by kernel_rfl
theorem wb29_4 : wp G b29_4 (x0::x1::x2::x3::x4::x5::x6::x7::x8::x9::aA::aB::aC::aD::aE::aF::aG::aH::aI::aJ::aK::aL::aM::aN::aO::aP::aQ::aR::aS::aT::aU::aV::aW::aX::aY::aZ::cA::cB::cC::cD::cE::cF::cG::cH::cI::cJ::cK::cL::cM::cN::cO::cP::cQ::cR::cS::cT::cU::cV::cW::cX::cY::cZ::dA::dB::dC::dD::dE::dF::dG::[]) H Q = (
  bd (binV .lss cW cV) fun p0=>
  ifB p0
   (bd (iadrV 4 cU cW) fun p1=>
   bd (ldV H p1 4 true) fun p2=>
   newB H (.cells [(.str []),(.int .i64 0),(.str []),.nils]) fun p3 p4=>
   true = true ∧ bd (stV p4 4 p3 p2) fun p5=>
   bd (fadrV 2 p3) fun p6=>
   bd (ldV p5 p6 1 false) fun p7=>
   bd (lkV p5 .s .nils false x7 p7) fun p8=>
   bd (lensV p8) fun p9=>
   bd (binV .eql p9 (.int .i64 0)) fun pA=>
   ifB pA
    (Q .r (x0::x1::(.int .i64 10)::x3::x4::x5::x6::x7::x8::p3::aA::aB::aC::aD::aE::aF::aG::aH::aI::aJ::aK::aL::aM::aN::aO::aP::aQ::aR::aS::aT::aU::aV::aW::aX::aY::aZ::cA::cB::cC::cD::cE::cF::cG::cH::cI::cJ::cK::cL::cM::cN::cO::cP::cQ::cR::cS::cT::cU::cV::cW::p0::p1::p2::x7::p6::p7::p8::p9::pA::dG::[]) p5)
    (bd (binV .add cW (.int .i64 1)) fun pB=>
    Q .n (x0::x1::x2::x3::x4::x5::x6::x7::x8::p3::aA::aB::aC::aD::aE::aF::aG::aH::aI::aJ::aK::aL::aM::aN::aO::aP::aQ::aR::aS::aT::aU::aV::aW::aX::aY::aZ::cA::cB::cC::cD::cE::cF::cG::cH::cI::cJ::cK::cL::cM::cN::cO::cP::cQ::cR::cS::cT::cU::cV::pB::p0::p1::p2::x7::p6::p7::p8::p9::pA::pB::[]) p5))
   (Q (.e 4) (x0::x1::x2::x3::x4::x5::x6::x7::x8::x9::aA::aB::aC::aD::aE::aF::aG::aH::aI::aJ::aK::aL::aM::aN::aO::aP::aQ::aR::aS::aT::aU::aV::aW::aX::aY::aZ::cA::cB::cC::cD::cE::cF::cG::cH::cI::cJ::cK::cL::cM::cN::cO::cP::cQ::cR::cS::cT::cU::cV::cW::p0::cY::cZ::dA::dB::dC::dD::dE::dF::dG::[]) H)) := by kernel_rfl
def Sb29_4 (I : Nat → V → V → V → V → Heap → Prop) : Nat → List V → Heap → Prop := fun i ts H => ts.length = 69 ∧ I i (ts.getD 7 undefV) (ts.getD 56 undefV) (ts.getD 57 undefV) (ts.getD 58 undefV) H
@[simp] theorem Sb29_4_eq {I : Nat → V → V → V → V → Heap → Prop} {i : Nat} : Sb29_4 I i (x0::x1::x2::x3::x4::x5::x6::x7::x8::x9::aA::aB::aC::aD::aE::aF::aG::aH::aI::aJ::aK::aL::aM::aN::aO::aP::aQ::aR::aS::aT::aU::aV::aW::aX::aY::aZ::cA::cB::cC::cD::cE::cF::cG::cH::cI::cJ::cK::cL::cM::cN::cO::cP::cQ::cR::cS::cT::cU::cV::cW::cX::cY::cZ::dA::dB::dC::dD::dE::dF::dG::[]) H = I i x7 cU cV cW H := propext ⟨fun h => h.2,fun h => ⟨rfl,h⟩⟩
def Lb29_4 (x7 cU cV cW : V) (H : Heap) (Q : Cont) : Prop := ∀ (x0 x1 x2 x3 x4 x5 x6 x8 x9 aA aB aC aD aE aF aG aH aI aJ aK aL aM aN aO aP aQ aR aS aT aU aV aW aX aY aZ cA cB cC cD cE cF cG cH cI cJ cK cL cM cN cO cP cQ cR cS cT cX cY cZ dA dB dC dD dE dF dG : V),Lp G b29_4 (x0::x1::x2::x3::x4::x5::x6::x7::x8::x9::aA::aB::aC::aD::aE::aF::aG::aH::aI::aJ::aK::aL::aM::aN::aO::aP::aQ::aR::aS::aT::aU::aV::aW::aX::aY::aZ::cA::cB::cC::cD::cE::cF::cG::cH::cI::cJ::cK::cL::cM::cN::cO::cP::cQ::cR::cS::cT::cU::cV::cW::cX::cY::cZ::dA::dB::dC::dD::dE::dF::dG::[]) H Q
theorem ub29_4 (M : Nat) (I : Nat → V → V → V → V → Heap → Prop) (step : ∀ i,i ≤ M → ∀ (x7 cU cV cW : V) (H : Heap),I i x7 cU cV cW H → ∀ (x0 x1 x2 x3 x4 x5 x6 x8 x9 aA aB aC aD aE aF aG aH aI aJ aK aL aM aN aO aP aQ aR aS aT aU aV aW aX aY aZ cA cB cC cD cE cF cG cH cI cJ cK cL cM cN cO cP cQ cR cS cT cX cY cZ dA dB dC dD dE dF dG : V),wp G b29_4 (x0::x1::x2::x3::x4::x5::x6::x7::x8::x9::aA::aB::aC::aD::aE::aF::aG::aH::aI::aJ::aK::aL::aM::aN::aO::aP::aQ::aR::aS::aT::aU::aV::aW::aX::aY::aZ::cA::cB::cC::cD::cE::cF::cG::cH::cI::cJ::cK::cL::cM::cN::cO::cP::cQ::cR::cS::cT::cU::cV::cW::cX::cY::cZ::dA::dB::dC::dD::dE::dF::dG::[]) H (upQ M (Sb29_4 I) i Q)) (i : Nat) (hi : i ≤ M) (h : I i x7 cU cV cW H) : Lp G b29_4 (x0::x1::x2::x3::x4::x5::x6::x7::x8::x9::aA::aB::aC::aD::aE::aF::aG::aH::aI::aJ::aK::aL::aM::aN::aO::aP::aQ::aR::aS::aT::aU::aV::aW::aX::aY::aZ::cA::cB::cC::cD::cE::cF::cG::cH::cI::cJ::cK::cL::cM::cN::cO::cP::cQ::cR::cS::cT::cU::cV::cW::cX::cY::cZ::dA::dB::dC::dD::dE::dF::dG::[]) H Q :=
  Lp.up (S := Sb29_4 I) (fun i t H hi hS => (congrArg (fun t => wp G b29_4 t H (upQ M (Sb29_4 I) i Q)) (tabF_eq hS.1)).mpr (step i hi _ _ _ _ H hS.2 ..)) _ i _ H rfl hi ⟨rfl,h⟩
theorem wr29_5 : wp G r29_5 (x0::x1::x2::z) H Q = (
  Q .r (x0::x1::(.int .i64 0)::z) H) := by kernel_rfl
theorem w38 : runW G i38 [x0,x1] H k = (
  bd (bxrV x0) fun p0=>
  bd (fadrV 0 p0) fun p1=>
  bd (ldV H p1 1 false) fun p2=>
  bd (iadrV 4 p2 x1) fun p3=>
  bd (ldV H p3 4 true) fun p4=>
  newB H (.cells [(.str []),(.int .i64 0),(.str []),.nils]) fun p5 p6=>
  true = true ∧ bd (stV p6 4 p5 p4) fun p7=>
  bd (fadrV 0 p5) fun p8=>
  bd (ldV p7 p8 1 false) fun p9=>
  (true || G.pur 59) = true ∧ Cl G 59 [p9] p7 fun pA pB=>
  bd (unV .not pA) fun pC=>
  ifB pC
   (k (.int .i64 11) pB)
   (Lp G b38_0 (x0::x1::p0::undefV::(.int .i64 0)::p5::(.int .i64 0)::undefV::p1::p2::x1::p3::p4::p8::p9::pA::pC::undefV::undefV::undefV::undefV::undefV::undefV::undefV::undefV::undefV::undefV::undefV::undefV::undefV::undefV::undefV::undefV::undefV::undefV::undefV::undefV::undefV::undefV::undefV::undefV::undefV::undefV::undefV::undefV::undefV::undefV::undefV::undefV::undefV::undefV::undefV::undefV::undefV::undefV::undefV::undefV::undefV::undefV::undefV::undefV::undefV::undefV::undefV::undefV::undefV::undefV::undefV::undefV::undefV::undefV::undefV::undefV::undefV::undefV::undefV::undefV::undefV::undefV::undefV::undefV::undefV::undefV::undefV::undefV::undefV::undefV::undefV::undefV::undefV::undefV::undefV::undefV::undefV::undefV::undefV::undefV::undefV::undefV::undefV::[]) pB (blockQ 0 (seqQ G r38_1 (retQ i38 k))))) := by kernel_rfl
@[simp] theorem ret38 : retQ i38 k .r (x0::x1::x2::x3::x4::z) H = k x4 H := nrfl
theorem wb38_0 : wp G b38_0 (x0::x1::x2::x3::x4::x5::x6::x7::x8::x9::aA::aB::aC::aD::aE::aF::aG::aH::aI::aJ::aK::aL::aM::aN::aO::aP::aQ::aR::aS::aT::aU::z) H Q = (
  bd (binV .lss x6 x1) fun p0=>
  ifB p0
   (bd (fadrV 0 x2) fun p1=>
   bd (ldV H p1 1 false) fun p2=>
   bd (iadrV 4 p2 x6) fun p3=>
   bd (fadrV 0 p3) fun p4=>
   bd (ldV H p4 1 false) fun p5=>
   bd (fadrV 0 x5) fun p6=>
   bd (ldV H p6 1 false) fun p7=>
   bd (binV .eql p5 p7) fun p8=>
   ifB p8
    (Q .r (x0::x1::x2::x3::(.int .i64 9)::x5::x6::x7::x8::x9::aA::aB::aC::aD::aE::aF::aG::x6::x1::p0::aK::aL::p1::p2::x6::p3::p4::p5::p6::p7::p8::z) H)
    (bd (binV .add x6 (.int .i64 1)) fun p9=>
    Q .n (x0::x1::x2::x3::x4::x5::p9::x7::x8::x9::aA::aB::aC::aD::aE::aF::aG::x6::x1::p0::x6::p9::p1::p2::x6::p3::p4::p5::p6::p7::p8::z) H))
   (Q (.e 0) (x0::x1::x2::x3::x4::x5::x6::x7::x8::x9::aA::aB::aC::aD::aE::aF::aG::x6::x1::p0::aK::aL::aM::aN::aO::aP::aQ::aR::aS::aT::aU::z) H)) := by kernel_rfl
def Sb38_0 (I : Nat → V → V → V → V → Heap → Prop) : Nat → List V → Heap → Prop := fun i ts H => ts.length = 100 ∧ I i (ts.getD 1 undefV) (ts.getD 2 undefV) (ts.getD 5 undefV) (ts.getD 6 undefV) H
@[simp] theorem Sb38_0_eq {I : Nat → V → V → V → V → Heap → Prop} {i : Nat} : Sb38_0 I i (x0::x1::x2::x3::x4::x5::x6::x7::x8::x9::aA::aB::aC::aD::aE::aF::aG::aH::aI::aJ::aK::aL::aM::aN::aO::aP::aQ::aR::aS::aT::aU::aV::aW::aX::aY::aZ::cA::cB::cC::cD::cE::cF::cG::cH::cI::cJ::cK::cL::cM::cN::cO::cP::cQ::cR::cS::cT::cU::cV::cW::cX::cY::cZ::dA::dB::dC::dD::dE::dF::dG::dH::dI::dJ::dK::dL::dM::dN::dO::dP::dQ::dR::dS::dT::dU::dV::dW::dX::dY::dZ::eA::eB::eC::eD::eE::eF::eG::eH::eI::eJ::eK::eL::[]) H = I i x1 x2 x5 x6 H := propext ⟨fun h => h.2,fun h => ⟨rfl,h⟩⟩
theorem ub38_0 (M : Nat) (I : Nat → V → V → V → V → Heap → Prop) (step : ∀ i,i ≤ M → ∀ (x1 x2 x5 x6 : V) (H : Heap),I i x1 x2 x5 x6 H → ∀ (x0 x3 x4 x7 x8 x9 aA aB aC aD aE aF aG aH aI aJ aK aL aM aN aO aP aQ aR aS aT aU aV aW aX aY aZ cA cB cC cD cE cF cG cH cI cJ cK cL cM cN cO cP cQ cR cS cT cU cV cW cX cY cZ dA dB dC dD dE dF dG dH dI dJ dK dL dM dN dO dP dQ dR dS dT dU dV dW dX dY dZ eA eB eC eD eE eF eG eH eI eJ eK eL : V),wp G b38_0 (x0::x1::x2::x3::x4::x5::x6::x7::x8::x9::aA::aB::aC::aD::aE::aF::aG::aH::aI::aJ::aK::aL::aM::aN::aO::aP::aQ::aR::aS::aT::aU::aV::aW::aX::aY::aZ::cA::cB::cC::cD::cE::cF::cG::cH::cI::cJ::cK::cL::cM::cN::cO::cP::cQ::cR::cS::cT::cU::cV::cW::cX::cY::cZ::dA::dB::dC::dD::dE::dF::dG::dH::dI::dJ::dK::dL::dM::dN::dO::dP::dQ::dR::dS::dT::dU::dV::dW::dX::dY::dZ::eA::eB::eC::eD::eE::eF::eG::eH::eI::eJ::eK::eL::[]) H (upQ M (Sb38_0 I) i Q)) (i : Nat) (hi : i ≤ M) (h : I i x1 x2 x5 x6 H) : Lp G b38_0 (x0::x1::x2::x3::x4::x5::x6::x7::x8::x9::aA::aB::aC::aD::aE::aF::aG::aH::aI::aJ::aK::aL::aM::aN::aO::aP::aQ::aR::aS::aT::aU::aV::aW::aX::aY::aZ::cA::cB::cC::cD::cE::cF::cG::cH::cI::cJ::cK::cL::cM::cN::cO::cP::cQ::cR::cS::cT::cU::cV::cW::cX::cY::cZ::dA::dB::dC::dD::dE::dF::dG::dH::dI::dJ::dK::dL::dM::dN::dO::dP::dQ::dR::dS::dT::dU::dV::dW::dX::dY::dZ::eA::eB::eC::eD::eE::eF::eG::eH::eI::eJ::eK::eL::[]) H Q :=
  Lp.up (S := Sb38_0 I) (fun i t H hi hS => (congrArg (fun t => wp G b38_0 t H (upQ M (Sb38_0 I) i Q)) (tabF_eq hS.1)).mpr (step i hi _ _ _ _ H hS.2 ..)) _ i _ H rfl hi ⟨rfl,h⟩
theorem wr38_1 : wp G r38_1 (x0::x1::x2::x3::x4::x5::x6::x7::x8::x9::aA::aB::aC::aD::aE::aF::aG::aH::aI::aJ::aK::aL::aM::aN::aO::aP::aQ::aR::aS::aT::aU::aV::aW::aX::aY::aZ::cA::cB::cC::cD::cE::cF::cG::cH::cI::cJ::cK::cL::cM::cN::z) H Q = (
  bd (fadrV 1 x5) fun p0=>
  bd (ldV H p0 1 false) fun p1=>
  bd (binV .lss p1 (.int .i64 1)) fun p2=>
  wpg (gdV p2 false) H (fun k => bd (fadrV 1 x5) fun p3 => k p3 H) fun p4 p5=>
  wpg (gdV p2 false) p5 (fun k => bd (ldV p5 p4 1 false) fun p6 => k p6 p5) fun p7 p8=>
  wpg (gdV p2 false) p8 (fun k => bd (binV .gtr p7 (.int .i64 1048576)) fun p9 => k p9 p8) fun pA pB=>
  bd (pickV p2 (.bool true) pA) fun pC=>
  ifB pC
   (Q .r (x0::x1::x2::x3::(.int .i64 2)::x5::x6::x7::x8::x9::aA::aB::aC::aD::aE::aF::aG::aH::aI::aJ::aK::aL::aM::aN::aO::aP::aQ::aR::aS::aT::aU::pC::p0::p1::p2::p2::p4::p7::pA::pC::cE::cF::cG::cH::cI::cJ::cK::cL::cM::cN::z) pB)
   (bd (fadrV 2 x5) fun pD=>
   bd (ldV pB pD 1 false) fun pE=>
   bd (binV .neq pE (.str [])) fun pF=>
   wpg (gdV pF true) pB (fun k => bd (fadrV 2 x5) fun pG => k pG pB) fun pH pI=>
   wpg (gdV pF true) pI (fun k => bd (ldV pI pH 1 false) fun pJ => k pJ pI) fun pK pL=>
   wpg (gdV pF true) pL (fun k => (true || G.pur 59) = true ∧ Cl G 59 [pK] pL fun pM pN => k pM pN) fun pO pP=>
   wpg (gdV pF true) pP (fun k => bd (unV .not pO) fun pQ => k pQ pP) fun pR pS=>
   bd (pickV pF pR (.bool false)) fun pT=>
   ifB pT
    (Q .r (x0::x1::x2::x3::(.int .i64 11)::x5::x6::x7::x8::x9::aA::aB::aC::aD::aE::aF::aG::aH::aI::aJ::aK::aL::aM::aN::aO::aP::aQ::aR::aS::aT::aU::pC::p0::p1::p2::p2::p4::p7::pA::pC::pT::pD::pE::pF::pF::pH::pK::pO::pR::pT::z) pS)
    (Lp G b38_2 (x0::x1::x2::x3::x4::x5::x6::(.int .i64 0)::x8::x9::aA::aB::aC::aD::aE::aF::aG::aH::aI::aJ::aK::aL::aM::aN::aO::aP::aQ::aR::aS::aT::aU::pC::p0::p1::p2::p2::p4::p7::pA::pC::pT::pD::pE::pF::pF::pH::pK::pO::pR::pT::z) pS (blockQ 3 (seqQ G r38_3 Q))))) := by kernel_rfl
theorem wb38_2 : wp G b38_2 (x0::x1::x2::x3::x4::x5::x6::x7::x8::x9::aA::aB::aC::aD::aE::aF::aG::aH::aI::aJ::aK::aL::aM::aN::aO::aP::aQ::aR::aS::aT::aU::aV::aW::aX::aY::aZ::cA::cB::cC::cD::cE::cF::cG::cH::cI::cJ::cK::cL::cM::cN::cO::cP::cQ::cR::cS::cT::cU::cV::cW::cX::cY::cZ::dA::dB::dC::dD::dE::dF::dG::dH::dI::dJ::dK::dL::dM::dN::dO::dP::dQ::dR::dS::dT::dU::dV::dW::dX::dY::dZ::eA::eB::eC::eD::eE::eF::eG::eH::eI::eJ::eK::eL::[]) H Q = (
  bd (fadrV 3 x5) fun p0=>
  bd (ldV H p0 1 false) fun p1=>
  bd (lensV p1) fun p2=>
  bd (binV .lss x7 p2) fun p3=>
  ifB p3
   (bd (fadrV 3 x5) fun p4=>
   bd (ldV H p4 1 false) fun p5=>
   bd (iadrV 1 p5 x7) fun p6=>
   bd (ldV H p6 1 false) fun p7=>
   bd (binV .lss p7 (.int .i64 0)) fun p8=>
   wpg (gdV p8 false) H (fun k => bd (fadrV 3 x5) fun p9 => k p9 H) fun pA pB=>
   wpg (gdV p8 false) pB (fun k => bd (ldV pB pA 1 false) fun pC => k pC pB) fun pD pE=>
   wpg (gdV p8 false) pE (fun k => k x7 pE) fun pF pG=>
   wpg (gdV p8 false) pG (fun k => bd (iadrV 1 pD pF) fun pH => k pH pG) fun pI pJ=>
   wpg (gdV p8 false) pJ (fun k => bd (ldV pJ pI 1 false) fun pK => k pK pJ) fun pL pM=>
   wpg (gdV p8 false) pM (fun k => bd (fadrV 0 x2) fun pN => k pN pM) fun pO pP=>
   wpg (gdV p8 false) pP (fun k => bd (ldV pP pO 1 false) fun pQ => k pQ pP) fun pR pS=>
   wpg (gdV p8 false) pS (fun k => bd (lensV pR) fun pT => k pT pS) fun pU pV=>
   wpg (gdV p8 false) pV (fun k => bd (binV .geq pL pU) fun pW => k pW pV) fun pX pY=>
   bd (pickV p8 (.bool true) pX) fun pZ=>
   ifB pZ
    (Q .r (x0::x1::x2::x3::(.int .i64 2)::x5::x6::x7::x8::x9::aA::aB::aC::aD::aE::aF::aG::aH::aI::aJ::aK::aL::aM::aN::aO::aP::aQ::aR::aS::aT::aU::aV::aW::aX::aY::aZ::cA::cB::cC::cD::cE::cF::cG::cH::cI::cJ::cK::cL::cM::cN::x7::p0::p1::p2::p3::cT::cU::pZ::p4::p5::x7::p6::p7::p8::p8::pA::pD::pF::pI::pL::pO::pR::pU::pX::pZ::dN::dO::dP::dQ::dR::dS::dT::dU::dV::dW::dX::dY::dZ::eA::eB::eC::eD::eE::eF::eG::eH::eI::eJ::eK::eL::[]) pY)
    (bd (fadrV 3 x5) fun pa=>
    bd (ldV pY pa 1 false) fun pb=>
    bd (iadrV 1 pb x7) fun pc=>
    bd (ldV pY pc 1 false) fun pd=>
    bd (binV .eql pd x1) fun pe=>
    ifB pe
     (Q .r (x0::x1::x2::x3::(.int .i64 17)::x5::x6::x7::x8::x9::aA::aB::aC::aD::aE::aF::aG::aH::aI::aJ::aK::aL::aM::aN::aO::aP::aQ::aR::aS::aT::aU::aV::aW::aX::aY::aZ::cA::cB::cC::cD::cE::cF::cG::cH::cI::cJ::cK::cL::cM::cN::x7::p0::p1::p2::p3::cT::cU::pZ::p4::p5::x7::p6::p7::p8::p8::pA::pD::pF::pI::pL::pO::pR::pU::pX::pZ::pe::pa::pb::x7::pc::pd::x1::pe::dV::dW::dX::dY::dZ::eA::eB::eC::eD::eE::eF::eG::eH::eI::eJ::eK::eL::[]) pY)
     (bd (binV .gtr x7 (.int .i64 0)) fun pf=>
     wpg (gdV pf true) pY (fun k => bd (fadrV 3 x5) fun pg => k pg pY) fun ph pi=>
     wpg (gdV pf true) pi (fun k => bd (ldV pi ph 1 false) fun pj => k pj pi) fun pk pl=>
     wpg (gdV pf true) pl (fun k => k x7 pl) fun pm pn=>
     wpg (gdV pf true) pn (fun k => bd (iadrV 1 pk pm) fun po => k po pn) fun pp pq=>
     wpg (gdV pf true) pq (fun k => bd (ldV pq pp 1 false) fun pr => k pr pq) fun ps pt=>
     wpg (gdV pf true) pt (fun k => bd (fadrV 3 x5) fun pu => k pu pt) fun pv pw=>
     wpg (gdV pf true) pw (fun k => bd (ldV pw pv 1 false) fun px => k px pw) fun py pz=>
     wpg (gdV pf true) pz (fun k => k x7 pz) fun q0 q1=>
     wpg (gdV pf true) q1 (fun k => bd (binV .sub q0 (.int .i64 1)) fun q2 => k q2 q1) fun q3 q4=>
     wpg (gdV pf true) q4 (fun k => bd (iadrV 1 py q3) fun q5 => k q5 q4) fun q6 q7=>
     wpg (gdV pf true) q7 (fun k => bd (ldV q7 q6 1 false) fun q8 => k q8 q7) fun q9 qA=>
     wpg (gdV pf true) qA (fun k => bd (binV .leq ps q9) fun qB => k qB qA) fun qC qD=>
     bd (pickV pf qC (.bool false)) fun qE=>
     ifB qE
      (Q .r (x0::x1::x2::x3::(.int .i64 8)::x5::x6::x7::x8::x9::aA::aB::aC::aD::aE::aF::aG::aH::aI::aJ::aK::aL::aM::aN::aO::aP::aQ::aR::aS::aT::aU::aV::aW::aX::aY::aZ::cA::cB::cC::cD::cE::cF::cG::cH::cI::cJ::cK::cL::cM::cN::x7::p0::p1::p2::p3::cT::cU::pZ::p4::p5::x7::p6::p7::p8::p8::pA::pD::pF::pI::pL::pO::pR::pU::pX::pZ::pe::pa::pb::x7::pc::pd::x1::pe::qE::x7::pf::pf::ph::pk::pm::pp::ps::pv::py::q0::q3::q6::q9::qC::qE::[]) qD)
      (bd (binV .add x7 (.int .i64 1)) fun qF=>
      Q .n (x0::x1::x2::x3::x4::x5::x6::qF::x8::x9::aA::aB::aC::aD::aE::aF::aG::aH::aI::aJ::aK::aL::aM::aN::aO::aP::aQ::aR::aS::aT::aU::aV::aW::aX::aY::aZ::cA::cB::cC::cD::cE::cF::cG::cH::cI::cJ::cK::cL::cM::cN::x7::p0::p1::p2::p3::x7::qF::pZ::p4::p5::x7::p6::p7::p8::p8::pA::pD::pF::pI::pL::pO::pR::pU::pX::pZ::pe::pa::pb::x7::pc::pd::x1::pe::qE::x7::pf::pf::ph::pk::pm::pp::ps::pv::py::q0::q3::q6::q9::qC::qE::[]) qD))))
   (Q (.e 3) (x0::x1::x2::x3::x4::x5::x6::x7::x8::x9::aA::aB::aC::aD::aE::aF::aG::aH::aI::aJ::aK::aL::aM::aN::aO::aP::aQ::aR::aS::aT::aU::aV::aW::aX::aY::aZ::cA::cB::cC::cD::cE::cF::cG::cH::cI::cJ::cK::cL::cM::cN::x7::p0::p1::p2::p3::cT::cU::cV::cW::cX::cY::cZ::dA::dB::dC::dD::dE::dF::dG::dH::dI::dJ::dK::dL::dM::dN::dO::dP::dQ::dR::dS::dT::dU::dV::dW::dX::dY::dZ::eA::eB::eC::eD::eE::eF::eG::eH::eI::eJ::eK::eL::[]) H)) := by kernel_rfl
def Sb38_2 (I : Nat → V → V → V → V → Heap → Prop) : Nat → List V → Heap → Prop := fun i ts H => ts.length = 100 ∧ I i (ts.getD 1 undefV) (ts.getD 2 undefV) (ts.getD 5 undefV) (ts.getD 7 undefV) H
@[simp] theorem Sb38_2_eq {I : Nat → V → V → V → V → Heap → Prop} {i : Nat} : Sb38_2 I i (x0::x1::x2::x3::x4::x5::x6::x7::x8::x9::aA::aB::aC::aD::aE::aF::aG::aH::aI::aJ::aK::aL::aM::aN::aO::aP::aQ::aR::aS::aT::aU::aV::aW::aX::aY::aZ::cA::cB::cC::cD::cE::cF::cG::cH::cI::cJ::cK::cL::cM::cN::cO::cP::cQ::cR::cS::cT::cU::cV::cW::cX::cY::cZ::dA::dB::dC::dD::dE::dF::dG::dH::dI::dJ::dK::dL::dM::dN::dO::dP::dQ::dR::dS::dT::dU::dV::dW::dX::dY::dZ::eA::eB::eC::eD::eE::eF::eG::eH::eI::eJ::eK::eL::[]) H = I i x1 x2 x5 x7 H := propext ⟨fun h => h.2,fun h => ⟨rfl,h⟩⟩
def Lb38_2 (x1 x2 x5 x7 : V) (H : Heap) (Q : Cont) : Prop := ∀ (x0 x3 x4 x6 x8 x9 aA aB aC aD aE aF aG aH aI aJ aK aL aM aN aO aP aQ aR aS aT aU aV aW aX aY aZ cA cB cC cD cE cF cG cH cI cJ cK cL cM cN cO cP cQ cR cS cT cU cV cW cX cY cZ dA dB dC dD dE dF dG dH dI dJ dK dL dM dN dO dP dQ dR dS dT dU dV dW dX dY dZ eA eB eC eD eE eF eG eH eI eJ eK eL : V),Lp G b38_2 (x0::x1::x2::x3::x4::x5::x6::x7::x8::x9::aA::aB::aC::aD::aE::aF::aG::aH::aI::aJ::aK::aL::aM::aN::aO::aP::aQ::aR::aS::aT::aU::aV::aW::aX::aY::aZ::cA::cB::cC::cD::cE::cF::cG::cH::cI::cJ::cK::cL::cM::cN::cO::cP::cQ::cR::cS::cT::cU::cV::cW::cX::cY::cZ::dA::dB::dC::dD::dE::dF::dG::dH::dI::dJ::dK::dL::dM::dN::dO::dP::dQ::dR::dS::dT::dU::dV::dW::dX::dY::dZ::eA::eB::eC::eD::eE::eF::eG::eH::eI::eJ::eK::eL::[]) H Q
theorem ub38_2 (M : Nat) (I : Nat → V → V → V → V → Heap → Prop) (step : ∀ i,i ≤ M → ∀ (x1 x2 x5 x7 : V) (H : Heap),I i x1 x2 x5 x7 H → ∀ (x0 x3 x4 x6 x8 x9 aA aB aC aD aE aF aG aH aI aJ aK aL aM aN aO aP aQ aR aS aT aU aV aW aX aY aZ cA cB cC cD cE cF cG cH cI cJ cK cL cM cN cO cP cQ cR cS cT cU cV cW cX cY cZ dA dB dC dD dE dF dG dH dI dJ dK dL dM dN dO dP dQ dR dS dT dU dV dW dX dY dZ eA eB eC eD eE eF eG eH eI eJ eK eL : V),wp G b38_2 (x0::x1::x2::x3::x4::x5::x6::x7::x8::x9::aA::aB::aC::aD::aE::aF::aG::aH::aI::aJ::aK::aL::aM::aN::aO::aP::aQ::aR::aS::aT::aU::aV::aW::aX::aY::aZ::cA::cB::cC::cD::cE::cF::cG::cH::cI::cJ::cK::cL::cM::cN::cO::cP::cQ::cR::cS::cT::cU::cV::cW::cX::cY::cZ::dA::dB::dC::dD::dE::dF::dG::dH::dI::dJ::dK::dL::dM::dN::dO::dP::dQ::dR::dS::dT::dU::dV::dW::dX::dY::dZ::eA::eB::eC::eD::eE::eF::eG::eH::eI::eJ::eK::eL::[]) H (upQ M (Sb38_2 I) i Q)) (i : Nat) (hi : i ≤ M) (h : I i x1 x2 x5 x7 H) : Lp G b38_2 (x0::x1::x2::x3::x4::x5::x6::x7::x8::x9::aA::aB::aC::aD::aE::aF::aG::aH::aI::aJ::aK::aL::aM::aN::aO::aP::aQ::aR::aS::aT::aU::aV::aW::aX::aY::aZ::cA::cB::cC::cD::cE::cF::cG::cH::cI::cJ::cK::cL::cM::cN::cO::cP::cQ::cR::cS::cT::cU::cV::cW::cX::cY::cZ::dA::dB::dC::dD::dE::dF::dG::dH::dI::dJ::dK::dL::dM::dN::dO::dP::dQ::dR::dS::dT::dU::dV::dW::dX::dY::dZ::eA::eB::eC::eD::eE::eF::eG::eH::eI::eJ::eK::eL::[]) H Q :=
  Lp.up (S := Sb38_2 I) (fun i t H hi hS => (congrArg (fun t => wp G b38_2 t H (upQ M (Sb38_2 I) i Q)) (tabF_eq hS.1)).mpr (step i hi _ _ _ _ H hS.2 ..)) _ i _ H rfl hi ⟨rfl,h⟩
theorem wr38_3 : wp G r38_3 (x0::x1::x2::x3::x4::z) H Q = (
  Q .r (x0::x1::x2::x3::(.int .i64 0)::z) H) := by kernel_rfl
theorem w40 : runW G i40 [x0] H k = (
  bd (bxrV x0) fun p0=>
  newB H (.cells [(.int .i64 0),.nils]) fun p1 p2=>
  Lp G b40_0 [x0,p0,p1,.nils,(.int .i64 0),undefV,undefV,undefV,undefV,undefV,undefV,undefV,undefV,undefV,undefV,undefV,undefV,undefV,undefV,undefV,undefV,undefV,undefV,undefV,undefV,undefV,undefV,undefV,undefV,undefV,undefV,undefV,undefV,undefV,undefV,undefV,undefV,undefV,undefV,undefV,undefV,undefV,undefV] p2 (blockQ 0 (seqQ G r40_3 (retQ i40 k)))) := by kernel_rfl
@[simp] theorem ret40 : retQ i40 k .r (z) H = bd (resultV (z) H [.cell 2 2 true]) fun v => k v H := nrfl
theorem wb40_0 : wp G b40_0 (x0::x1::x2::x3::x4::x5::x6::x7::x8::x9::aA::aB::aC::aD::aE::aF::aG::aH::aI::aJ::aK::aL::aM::aN::z) H Q = (
  bd (fadrV 0 x1) fun p0=>
  bd (ldV H p0 1 false) fun p1=>
  bd (lensV p1) fun p2=>
  bd (binV .lss x4 p2) fun p3=>
  ifB p3
   (bd (fadrV 0 x1) fun p4=>
   bd (ldV H p4 1 false) fun p5=>
   bd (iadrV 4 p5 x4) fun p6=>
   bd (fadrV 3 p6) fun p7=>
   bd (ldV H p7 1 false) fun p8=>
   bd (lensV p8) fun p9=>
   Lp G b40_1 (x0::x1::x2::x3::x4::x5::x6::x7::x8::x4::p0::p1::p2::p3::aE::aF::p4::p5::x4::p6::p7::p8::p9::(.int .i64 0)::z) H (blockQ 2 (blockQ 1 (seqQ G r40_2 Q))))
   (Q (.e 0) (x0::x1::x2::x3::x4::x5::x6::x7::x8::x4::p0::p1::p2::p3::aE::aF::aG::aH::aI::aJ::aK::aL::aM::aN::z) H)) := by kernel_rfl
def Sb40_0 (I : Nat → V → V → V → V → Heap → Prop) : Nat → List V → Heap → Prop := fun i ts H => ts.length = 43 ∧ I i (ts.getD 1 undefV) (ts.getD 2 undefV) (ts.getD 3 undefV) (ts.getD 4 undefV) H
@[simp] theorem Sb40_0_eq {I : Nat → V → V → V → V → Heap → Prop} {i : Nat} : Sb40_0 I i [x0,x1,x2,x3,x4,x5,x6,x7,x8,x9,aA,aB,aC,aD,aE,aF,aG,aH,aI,aJ,aK,aL,aM,aN,aO,aP,aQ,aR,aS,aT,aU,aV,aW,aX,aY,aZ,cA,cB,cC,cD,cE,cF,cG] H = I i x1 x2 x3 x4 H := propext ⟨fun h => h.2,fun h => ⟨rfl,h⟩⟩
theorem ub40_0 (M : Nat) (I : Nat → V → V → V → V → Heap → Prop) (step : ∀ i,i ≤ M → ∀ (x1 x2 x3 x4 : V) (H : Heap),I i x1 x2 x3 x4 H → ∀ (x0 x5 x6 x7 x8 x9 aA aB aC aD aE aF aG aH aI aJ aK aL aM aN aO aP aQ aR aS aT aU aV aW aX aY aZ cA cB cC cD cE cF cG : V),wp G b40_0 [x0,x1,x2,x3,x4,x5,x6,x7,x8,x9,aA,aB,aC,aD,aE,aF,aG,aH,aI,aJ,aK,aL,aM,aN,aO,aP,aQ,aR,aS,aT,aU,aV,aW,aX,aY,aZ,cA,cB,cC,cD,cE,cF,cG] H (upQ M (Sb40_0 I) i Q)) (i : Nat) (hi : i ≤ M) (h : I i x1 x2 x3 x4 H) : Lp G b40_0 [x0,x1,x2,x3,x4,x5,x6,x7,x8,x9,aA,aB,aC,aD,aE,aF,aG,aH,aI,aJ,aK,aL,aM,aN,aO,aP,aQ,aR,aS,aT,aU,aV,aW,aX,aY,aZ,cA,cB,cC,cD,cE,cF,cG] H Q :=
  Lp.up (S := Sb40_0 I) (fun i t H hi hS => (congrArg (fun t => wp G b40_0 t H (upQ M (Sb40_0 I) i Q)) (tabF_eq hS.1)).mpr (step i hi _ _ _ _ H hS.2 ..)) _ i _ H rfl hi ⟨rfl,h⟩
theorem wb40_1 : wp G b40_1 (x0::x1::x2::x3::x4::x5::x6::x7::x8::x9::aA::aB::aC::aD::aE::aF::aG::aH::aI::aJ::aK::aL::aM::aN::aO::aP::aQ::aR::aS::aT::aU::aV::aW::aX::z) H Q = (
  bd (binV .lss aN aM) fun p0=>
  ifB p0
   (bd (iadrV 1 aL aN) fun p1=>
   bd (ldV H p1 1 false) fun p2=>
   bd (bldV [(.int .i64 0),(.int .i64 0)] [(0,1,p2),(1,1,x4)]) fun p3=>
   bd2 (bslV 2 1 [(.int .i64 0),(.int .i64 0)] [(0,2,p3)] H) fun p4 p5=>
   bd2 (appV 2 16 true p5 x3 p4) fun p6 p7=>
   bd (binV .add aN (.int .i64 1)) fun p8=>
   Q .n (x0::x1::x2::p6::x4::x5::p2::x7::x8::x9::aA::aB::aC::aD::aE::aF::aG::aH::aI::aJ::aK::aL::aM::p8::p0::p1::p2::x3::p2::x4::p3::p4::p6::p8::z) p7)
   (Q (.e 2) (x0::x1::x2::x3::x4::x5::x6::x7::x8::x9::aA::aB::aC::aD::aE::aF::aG::aH::aI::aJ::aK::aL::aM::aN::p0::aP::aQ::aR::aS::aT::aU::aV::aW::aX::z) H)) := by kernel_rfl
def Sb40_1 (I : Nat → V → V → V → V → V → V → V → Heap → Prop) : Nat → List V → Heap → Prop := fun i ts H => ts.length = 43 ∧ I i (ts.getD 1 undefV) (ts.getD 2 undefV) (ts.getD 3 undefV) (ts.getD 4 undefV) (ts.getD 21 undefV) (ts.getD 22 undefV) (ts.getD 23 undefV) H
@[simp] theorem Sb40_1_eq {I : Nat → V → V → V → V → V → V → V → Heap → Prop} {i : Nat} : Sb40_1 I i [x0,x1,x2,x3,x4,x5,x6,x7,x8,x9,aA,aB,aC,aD,aE,aF,aG,aH,aI,aJ,aK,aL,aM,aN,aO,aP,aQ,aR,aS,aT,aU,aV,aW,aX,aY,aZ,cA,cB,cC,cD,cE,cF,cG] H = I i x1 x2 x3 x4 aL aM aN H := propext ⟨fun h => h.2,fun h => ⟨rfl,h⟩⟩
theorem ub40_1 (M : Nat) (I : Nat → V → V → V → V → V → V → V → Heap → Prop) (step : ∀ i,i ≤ M → ∀ (x1 x2 x3 x4 aL aM aN : V) (H : Heap),I i x1 x2 x3 x4 aL aM aN H → ∀ (x0 x5 x6 x7 x8 x9 aA aB aC aD aE aF aG aH aI aJ aK aO aP aQ aR aS aT aU aV aW aX aY aZ cA cB cC cD cE cF cG : V),wp G b40_1 [x0,x1,x2,x3,x4,x5,x6,x7,x8,x9,aA,aB,aC,aD,aE,aF,aG,aH,aI,aJ,aK,aL,aM,aN,aO,aP,aQ,aR,aS,aT,aU,aV,aW,aX,aY,aZ,cA,cB,cC,cD,cE,cF,cG] H (upQ M (Sb40_1 I) i Q)) (i : Nat) (hi : i ≤ M) (h : I i x1 x2 x3 x4 aL aM aN H) : Lp G b40_1 [x0,x1,x2,x3,x4,x5,x6,x7,x8,x9,aA,aB,aC,aD,aE,aF,aG,aH,aI,aJ,aK,aL,aM,aN,aO,aP,aQ,aR,aS,aT,aU,aV,aW,aX,aY,aZ,cA,cB,cC,cD,cE,cF,cG] H Q :=
  Lp.up (S := Sb40_1 I) (fun i t H hi hS => (congrArg (fun t => wp G b40_1 t H (upQ M (Sb40_1 I) i Q)) (tabF_eq hS.1)).mpr (step i hi _ _ _ _ _ _ _ H hS.2 ..)) _ i _ H rfl hi ⟨rfl,h⟩
theorem wr40_2 : wp G r40_2 (x0::x1::x2::x3::x4::x5::x6::x7::x8::x9::aA::aB::aC::aD::aE::aF::z) H Q = (
  bd (binV .add x4 (.int .i64 1)) fun p0=>
  Q .n (x0::x1::x2::x3::p0::x5::x6::x7::x8::x9::aA::aB::aC::aD::x4::p0::z) H) := by kernel_rfl
theorem wr40_3 : wp G r40_3 [x0,x1,x2,x3,x4,x5,x6,x7,x8,x9,aA,aB,aC,aD,aE,aF,aG,aH,aI,aJ,aK,aL,aM,aN,aO,aP,aQ,aR,aS,aT,aU,aV,aW,aX,aY,aZ,cA,cB,cC,cD,cE,cF,cG] H Q = (
  bd (fadrV 0 x1) fun p0=>
  bd (ldV H p0 1 false) fun p1=>
  bd (lensV p1) fun p2=>
  (true || G.pur 62) = true ∧ Cl G 62 [p2,x3] H fun p3 p4=>
  bd (extV 0 p3) fun p5=>
  bd (extV 1 p3) fun p6=>
  newB p4 (.cells [(.int .i64 0),.nils]) fun p7 p8=>
  true = true ∧ bd (stV p8 2 p7 p5) fun p9=>
  bd (ldV p9 p7 2 true) fun pA=>
  true = true ∧ bd (stV p9 2 x2 pA) fun pB=>
  Q .r [x0,x1,x2,x3,x4,x5,x6,p7,p6,x9,aA,aB,aC,aD,aE,aF,aG,aH,aI,aJ,aK,aL,aM,aN,aO,aP,aQ,aR,aS,aT,aU,aV,aW,aX,p3,p0,p1,p2,x3,p3,p5,p6,pA] pB) := by kernel_rfl
theorem w41 : runW G i41 [x0,x1] H k = (
  bd (bxrV x0) fun p0=>
  bd (fadrV 1 p0) fun p1=>
  bd (ldV H p1 1 false) fun p2=>
  bd (iadrV 2 p2 x1) fun p3=>
  bd (ldV H p3 2 true) fun p4=>
  newB H (.cells [(.str []),.nils]) fun p5 p6=>
  true = true ∧ bd (stV p6 2 p5 p4) fun p7=>
  bd (fadrV 0 p5) fun p8=>
  bd (ldV p7 p8 1 false) fun p9=>
  (true || G.pur 59) = true ∧ Cl G 59 [p9] p7 fun pA pB=>
  bd (unV .not pA) fun pC=>
  ifB pC
   (k (.int .i64 11) pB)
   (Lp G b41_0 (x0::x1::p0::undefV::(.int .i64 0)::p5::(.int .i64 0)::undefV::p1::p2::x1::p3::p4::p8::p9::pA::pC::undefV::undefV::undefV::undefV::undefV::undefV::undefV::undefV::undefV::undefV::undefV::undefV::undefV::undefV::undefV::undefV::undefV::undefV::undefV::undefV::undefV::undefV::undefV::undefV::undefV::undefV::undefV::undefV::undefV::undefV::undefV::undefV::undefV::undefV::undefV::undefV::undefV::undefV::undefV::undefV::undefV::undefV::undefV::undefV::undefV::undefV::undefV::undefV::[]) pB (blockQ 0 (seqQ G r41_1 (retQ i41 k))))) := by kernel_rfl
@[simp] theorem ret41 : retQ i41 k .r (x0::x1::x2::x3::x4::z) H = k x4 H := nrfl
theorem wb41_0 : wp G b41_0 (x0::x1::x2::x3::x4::x5::x6::x7::x8::x9::aA::aB::aC::aD::aE::aF::aG::aH::aI::aJ::aK::aL::aM::aN::aO::aP::aQ::aR::aS::aT::aU::z) H Q = (
  bd (binV .lss x6 x1) fun p0=>
  ifB p0
   (bd (fadrV 1 x2) fun p1=>
   bd (ldV H p1 1 false) fun p2=>
   bd (iadrV 2 p2 x6) fun p3=>
   bd (fadrV 0 p3) fun p4=>
   bd (ldV H p4 1 false) fun p5=>
   bd (fadrV 0 x5) fun p6=>
   bd (ldV H p6 1 false) fun p7=>
   bd (binV .eql p5 p7) fun p8=>
   ifB p8
    (Q .r (x0::x1::x2::x3::(.int .i64 9)::x5::x6::x7::x8::x9::aA::aB::aC::aD::aE::aF::aG::x6::x1::p0::aK::aL::p1::p2::x6::p3::p4::p5::p6::p7::p8::z) H)
    (bd (binV .add x6 (.int .i64 1)) fun p9=>
    Q .n (x0::x1::x2::x3::x4::x5::p9::x7::x8::x9::aA::aB::aC::aD::aE::aF::aG::x6::x1::p0::x6::p9::p1::p2::x6::p3::p4::p5::p6::p7::p8::z) H))
   (Q (.e 0) (x0::x1::x2::x3::x4::x5::x6::x7::x8::x9::aA::aB::aC::aD::aE::aF::aG::x6::x1::p0::aK::aL::aM::aN::aO::aP::aQ::aR::aS::aT::aU::z) H)) := by kernel_rfl
def Sb41_0 (I : Nat → V → V → V → V → Heap → Prop) : Nat → List V → Heap → Prop := fun i ts H => ts.length = 65 ∧ I i (ts.getD 1 undefV) (ts.getD 2 undefV) (ts.getD 5 undefV) (ts.getD 6 undefV) H
@[simp] theorem Sb41_0_eq {I : Nat → V → V → V → V → Heap → Prop} {i : Nat} : Sb41_0 I i (x0::x1::x2::x3::x4::x5::x6::x7::x8::x9::aA::aB::aC::aD::aE::aF::aG::aH::aI::aJ::aK::aL::aM::aN::aO::aP::aQ::aR::aS::aT::aU::aV::aW::aX::aY::aZ::cA::cB::cC::cD::cE::cF::cG::cH::cI::cJ::cK::cL::cM::cN::cO::cP::cQ::cR::cS::cT::cU::cV::cW::cX::cY::cZ::dA::dB::dC::[]) H = I i x1 x2 x5 x6 H := propext ⟨fun h => h.2,fun h => ⟨rfl,h⟩⟩
theorem ub41_0 (M : Nat) (I : Nat → V → V → V → V → Heap → Prop) (step : ∀ i,i ≤ M → ∀ (x1 x2 x5 x6 : V) (H : Heap),I i x1 x2 x5 x6 H → ∀ (x0 x3 x4 x7 x8 x9 aA aB aC aD aE aF aG aH aI aJ aK aL aM aN aO aP aQ aR aS aT aU aV aW aX aY aZ cA cB cC cD cE cF cG cH cI cJ cK cL cM cN cO cP cQ cR cS cT cU cV cW cX cY cZ dA dB dC : V),wp G b41_0 (x0::x1::x2::x3::x4::x5::x6::x7::x8::x9::aA::aB::aC::aD::aE::aF::aG::aH::aI::aJ::aK::aL::aM::aN::aO::aP::aQ::aR::aS::aT::aU::aV::aW::aX::aY::aZ::cA::cB::cC::cD::cE::cF::cG::cH::cI::cJ::cK::cL::cM::cN::cO::cP::cQ::cR::cS::cT::cU::cV::cW::cX::cY::cZ::dA::dB::dC::[]) H (upQ M (Sb41_0 I) i Q)) (i : Nat) (hi : i ≤ M) (h : I i x1 x2 x5 x6 H) : Lp G b41_0 (x0::x1::x2::x3::x4::x5::x6::x7::x8::x9::aA::aB::aC::aD::aE::aF::aG::aH::aI::aJ::aK::aL::aM::aN::aO::aP::aQ::aR::aS::aT::aU::aV::aW::aX::aY::aZ::cA::cB::cC::cD::cE::cF::cG::cH::cI::cJ::cK::cL::cM::cN::cO::cP::cQ::cR::cS::cT::cU::cV::cW::cX::cY::cZ::dA::dB::dC::[]) H Q :=
  Lp.up (S := Sb41_0 I) (fun i t H hi hS => (congrArg (fun t => wp G b41_0 t H (upQ M (Sb41_0 I) i Q)) (tabF_eq hS.1)).mpr (step i hi _ _ _ _ H hS.2 ..)) _ i _ H rfl hi ⟨rfl,h⟩
theorem wr41_1 : wp G r41_1 (x0::x1::x2::x3::x4::x5::x6::x7::x8::x9::aA::aB::aC::aD::aE::aF::aG::aH::aI::aJ::aK::aL::aM::aN::aO::aP::aQ::aR::aS::aT::aU::aV::aW::aX::aY::z) H Q = (
  bd (fadrV 1 x5) fun p0=>
  bd (ldV H p0 1 false) fun p1=>
  bd (lensV p1) fun p2=>
  bd (binV .gtr p2 (.int .i64 16)) fun p3=>
  ifB p3
   (Q .r (x0::x1::x2::x3::(.int .i64 6)::x5::x6::x7::x8::x9::aA::aB::aC::aD::aE::aF::aG::aH::aI::aJ::aK::aL::aM::aN::aO::aP::aQ::aR::aS::aT::aU::p0::p1::p2::p3::z) H)
   (Lp G b41_2 (x0::x1::x2::x3::x4::x5::x6::(.int .i64 0)::x8::x9::aA::aB::aC::aD::aE::aF::aG::aH::aI::aJ::aK::aL::aM::aN::aO::aP::aQ::aR::aS::aT::aU::p0::p1::p2::p3::z) H (blockQ 2 (seqQ G r41_3 Q)))) := by kernel_rfl
theorem wb41_2 : wp G b41_2 (x0::x1::x2::x3::x4::x5::x6::x7::x8::x9::aA::aB::aC::aD::aE::aF::aG::aH::aI::aJ::aK::aL::aM::aN::aO::aP::aQ::aR::aS::aT::aU::aV::aW::aX::aY::aZ::cA::cB::cC::cD::cE::cF::cG::cH::cI::cJ::cK::cL::cM::cN::cO::cP::cQ::cR::cS::cT::cU::cV::cW::cX::cY::cZ::dA::dB::dC::[]) H Q = (
  bd (fadrV 1 x5) fun p0=>
  bd (ldV H p0 1 false) fun p1=>
  bd (lensV p1) fun p2=>
  bd (binV .lss x7 p2) fun p3=>
  ifB p3
   (bd (fadrV 1 x5) fun p4=>
   bd (ldV H p4 1 false) fun p5=>
   bd (iadrV 1 p5 x7) fun p6=>
   bd (ldV H p6 1 false) fun p7=>
   (true || G.pur 59) = true ∧ Cl G 59 [p7] H fun p8 p9=>
   bd (unV .not p8) fun pA=>
   ifB pA
    (Q .r (x0::x1::x2::x3::(.int .i64 11)::x5::x6::x7::x8::x9::aA::aB::aC::aD::aE::aF::aG::aH::aI::aJ::aK::aL::aM::aN::aO::aP::aQ::aR::aS::aT::aU::aV::aW::aX::aY::x7::p0::p1::p2::p3::cE::cF::p4::p5::x7::p6::p7::p8::pA::cN::cO::cP::cQ::cR::cS::cT::cU::cV::cW::cX::cY::cZ::dA::dB::dC::[]) p9)
    (bd (binV .gtr x7 (.int .i64 0)) fun pB=>
    wpg (gdV pB true) p9 (fun k => bd (fadrV 1 x5) fun pC => k pC p9) fun pD pE=>
    wpg (gdV pB true) pE (fun k => bd (ldV pE pD 1 false) fun pF => k pF pE) fun pG pH=>
    wpg (gdV pB true) pH (fun k => k x7 pH) fun pI pJ=>
    wpg (gdV pB true) pJ (fun k => bd (iadrV 1 pG pI) fun pK => k pK pJ) fun pL pM=>
    wpg (gdV pB true) pM (fun k => bd (ldV pM pL 1 false) fun pN => k pN pM) fun pO pP=>
    wpg (gdV pB true) pP (fun k => bd (fadrV 1 x5) fun pQ => k pQ pP) fun pR pS=>
    wpg (gdV pB true) pS (fun k => bd (ldV pS pR 1 false) fun pT => k pT pS) fun pU pV=>
    wpg (gdV pB true) pV (fun k => k x7 pV) fun pW pX=>
    wpg (gdV pB true) pX (fun k => bd (binV .sub pW (.int .i64 1)) fun pY => k pY pX) fun pZ pa=>
    wpg (gdV pB true) pa (fun k => bd (iadrV 1 pU pZ) fun pb => k pb pa) fun pc pd=>
    wpg (gdV pB true) pd (fun k => bd (ldV pd pc 1 false) fun pe => k pe pd) fun pf pg=>
    wpg (gdV pB true) pg (fun k => bd (binV .leq pO pf) fun ph => k ph pg) fun pi pj=>
    bd (pickV pB pi (.bool false)) fun pk=>
    ifB pk
     (Q .r (x0::x1::x2::x3::(.int .i64 8)::x5::x6::x7::x8::x9::aA::aB::aC::aD::aE::aF::aG::aH::aI::aJ::aK::aL::aM::aN::aO::aP::aQ::aR::aS::aT::aU::aV::aW::aX::aY::x7::p0::p1::p2::p3::cE::cF::p4::p5::x7::p6::p7::p8::pA::x7::pB::pB::pD::pG::pI::pL::pO::pR::pU::pW::pZ::pc::pf::pi::pk::[]) pj)
     (bd (binV .add x7 (.int .i64 1)) fun pl=>
     Q .n (x0::x1::x2::x3::x4::x5::x6::pl::x8::x9::aA::aB::aC::aD::aE::aF::aG::aH::aI::aJ::aK::aL::aM::aN::aO::aP::aQ::aR::aS::aT::aU::aV::aW::aX::aY::x7::p0::p1::p2::p3::x7::pl::p4::p5::x7::p6::p7::p8::pA::x7::pB::pB::pD::pG::pI::pL::pO::pR::pU::pW::pZ::pc::pf::pi::pk::[]) pj)))
   (Q (.e 2) (x0::x1::x2::x3::x4::x5::x6::x7::x8::x9::aA::aB::aC::aD::aE::aF::aG::aH::aI::aJ::aK::aL::aM::aN::aO::aP::aQ::aR::aS::aT::aU::aV::aW::aX::aY::x7::p0::p1::p2::p3::cE::cF::cG::cH::cI::cJ::cK::cL::cM::cN::cO::cP::cQ::cR::cS::cT::cU::cV::cW::cX::cY::cZ::dA::dB::dC::[]) H)) := by kernel_rfl
def Sb41_2 (I : Nat → V → V → Heap → Prop) : Nat → List V → Heap → Prop := fun i ts H => ts.length = 65 ∧ I i (ts.getD 5 undefV) (ts.getD 7 undefV) H
@[simp] theorem Sb41_2_eq {I : Nat → V → V → Heap → Prop} {i : Nat} : Sb41_2 I i (x0::x1::x2::x3::x4::x5::x6::x7::x8::x9::aA::aB::aC::aD::aE::aF::aG::aH::aI::aJ::aK::aL::aM::aN::aO::aP::aQ::aR::aS::aT::aU::aV::aW::aX::aY::aZ::cA::cB::cC::cD::cE::cF::cG::cH::cI::cJ::cK::cL::cM::cN::cO::cP::cQ::cR::cS::cT::cU::cV::cW::cX::cY::cZ::dA::dB::dC::[]) H = I i x5 x7 H := propext ⟨fun h => h.2,fun h => ⟨rfl,h⟩⟩
def Lb41_2 (x5 x7 : V) (H : Heap) (Q : Cont) : Prop := ∀ (x0 x1 x2 x3 x4 x6 x8 x9 aA aB aC aD aE aF aG aH aI aJ aK aL aM aN aO aP aQ aR aS aT aU aV aW aX aY aZ cA cB cC cD cE cF cG cH cI cJ cK cL cM cN cO cP cQ cR cS cT cU cV cW cX cY cZ dA dB dC : V),Lp G b41_2 (x0::x1::x2::x3::x4::x5::x6::x7::x8::x9::aA::aB::aC::aD::aE::aF::aG::aH::aI::aJ::aK::aL::aM::aN::aO::aP::aQ::aR::aS::aT::aU::aV::aW::aX::aY::aZ::cA::cB::cC::cD::cE::cF::cG::cH::cI::cJ::cK::cL::cM::cN::cO::cP::cQ::cR::cS::cT::cU::cV::cW::cX::cY::cZ::dA::dB::dC::[]) H Q
theorem ub41_2 (M : Nat) (I : Nat → V → V → Heap → Prop) (step : ∀ i,i ≤ M → ∀ (x5 x7 : V) (H : Heap),I i x5 x7 H → ∀ (x0 x1 x2 x3 x4 x6 x8 x9 aA aB aC aD aE aF aG aH aI aJ aK aL aM aN aO aP aQ aR aS aT aU aV aW aX aY aZ cA cB cC cD cE cF cG cH cI cJ cK cL cM cN cO cP cQ cR cS cT cU cV cW cX cY cZ dA dB dC : V),wp G b41_2 (x0::x1::x2::x3::x4::x5::x6::x7::x8::x9::aA::aB::aC::aD::aE::aF::aG::aH::aI::aJ::aK::aL::aM::aN::aO::aP::aQ::aR::aS::aT::aU::aV::aW::aX::aY::aZ::cA::cB::cC::cD::cE::cF::cG::cH::cI::cJ::cK::cL::cM::cN::cO::cP::cQ::cR::cS::cT::cU::cV::cW::cX::cY::cZ::dA::dB::dC::[]) H (upQ M (Sb41_2 I) i Q)) (i : Nat) (hi : i ≤ M) (h : I i x5 x7 H) : Lp G b41_2 (x0::x1::x2::x3::x4::x5::x6::x7::x8::x9::aA::aB::aC::aD::aE::aF::aG::aH::aI::aJ::aK::aL::aM::aN::aO::aP::aQ::aR::aS::aT::aU::aV::aW::aX::aY::aZ::cA::cB::cC::cD::cE::cF::cG::cH::cI::cJ::cK::cL::cM::cN::cO::cP::cQ::cR::cS::cT::cU::cV::cW::cX::cY::cZ::dA::dB::dC::[]) H Q :=
  Lp.up (S := Sb41_2 I) (fun i t H hi hS => (congrArg (fun t => wp G b41_2 t H (upQ M (Sb41_2 I) i Q)) (tabF_eq hS.1)).mpr (step i hi _ _ H hS.2 ..)) _ i _ H rfl hi ⟨rfl,h⟩
theorem wr41_3 : wp G r41_3 (x0::x1::x2::x3::x4::z) H Q = (
  Q .r (x0::x1::x2::x3::(.int .i64 0)::z) H) := by kernel_rfl
theorem w42 : runW G i42 [x0] H k = (
  bd (bxrV x0) fun p0=>
  bd (fadrV 0 p0) fun p1=>
  bd (ldV H p1 1 false) fun p2=>
  bd (lensV p2) fun p3=>
  bd2 (mksV 1 8 [(.int .i64 0)] H p3 p3) fun p4 p5=>
  bd (ldV p5 p0 2 true) fun p6=>
  (true || G.pur 56) = true ∧ Cl G 56 [p6] p5 fun p7 p8=>
  (true || G.pur 63) = true ∧ Cl G 63 [p7] p8 fun p9 pA=>
  bd (lensV p7) fun pB=>
  Lp G b42_0 (x0::p0::.nils::p4::p7::undefV::undefV::undefV::undefV::p1::p2::p3::p4::p6::p7::p7::p9::p7::pB::(.int .i64 0)::undefV::undefV::undefV::undefV::undefV::undefV::undefV::undefV::undefV::undefV::undefV::undefV::undefV::undefV::undefV::undefV::undefV::undefV::undefV::undefV::undefV::undefV::undefV::undefV::undefV::undefV::undefV::undefV::undefV::undefV::undefV::undefV::undefV::undefV::undefV::undefV::undefV::undefV::undefV::undefV::undefV::[]) pA (blockQ 0 (seqQ G r42_3 (retQ i42 k)))) := by kernel_rfl
@[simp] theorem ret42 : retQ i42 k .r (x0::x1::x2::z) H = k x2 H := nrfl
theorem wb42_0 : wp G b42_0 (x0::x1::x2::x3::x4::x5::x6::x7::x8::x9::aA::aB::aC::aD::aE::aF::aG::aH::aI::aJ::aK::aL::aM::aN::aO::aP::aQ::aR::aS::aT::aU::aV::aW::aX::aY::aZ::cA::cB::cC::cD::cE::cF::cG::z) H Q = (
  bd (binV .lss aJ aI) fun p0=>
  ifB p0
   (bd (iadrV 1 aH aJ) fun p1=>
   bd (ldV H p1 1 false) fun p2=>
   bd (iadrV 1 x3 p2) fun p3=>
   bd (ldV H p3 1 false) fun p4=>
   bd (fadrV 0 x1) fun p5=>
   bd (ldV H p5 1 false) fun p6=>
   bd (iadrV 4 p6 p2) fun p7=>
   bd (fadrV 1 p7) fun p8=>
   bd (ldV H p8 1 false) fun p9=>
   bd (binV .add p4 p9) fun pA=>
   bd (iadrV 1 x3 p2) fun pB=>
   true = true ∧ bd (stV H 1 pB pA) fun pC=>
   bd (fadrV 0 x1) fun pD=>
   bd (ldV pC pD 1 false) fun pE=>
   bd (iadrV 4 pE p2) fun pF=>
   bd (fadrV 3 pF) fun pG=>
   bd (ldV pC pG 1 false) fun pH=>
   bd (lensV pH) fun pI=>
   Lp G b42_1 (x0::x1::x2::x3::x4::x5::p2::x7::x8::x9::aA::aB::aC::aD::aE::aF::aG::aH::aI::aJ::p0::p1::p2::x3::p2::p3::p4::p5::p6::p2::p7::p8::p9::pA::pB::pD::pE::p2::pF::pG::pH::pI::(.int .i64 0)::z) pC (blockQ 2 (blockQ 1 (seqQ G r42_2 Q))))
   (Q (.e 0) (x0::x1::x2::x3::x4::x5::x6::x7::x8::x9::aA::aB::aC::aD::aE::aF::aG::aH::aI::aJ::p0::aL::aM::aN::aO::aP::aQ::aR::aS::aT::aU::aV::aW::aX::aY::aZ::cA::cB::cC::cD::cE::cF::cG::z) H)) := by kernel_rfl
def Sb42_0 (I : Nat → V → V → V → V → V → Heap → Prop) : Nat → List V → Heap → Prop := fun i ts H => ts.length = 61 ∧ I i (ts.getD 1 undefV) (ts.getD 3 undefV) (ts.getD 17 undefV) (ts.getD 18 undefV) (ts.getD 19 undefV) H
@[simp] theorem Sb42_0_eq {I : Nat → V → V → V → V → V → Heap → Prop} {i : Nat} : Sb42_0 I i (x0::x1::x2::x3::x4::x5::x6::x7::x8::x9::aA::aB::aC::aD::aE::aF::aG::aH::aI::aJ::aK::aL::aM::aN::aO::aP::aQ::aR::aS::aT::aU::aV::aW::aX::aY::aZ::cA::cB::cC::cD::cE::cF::cG::cH::cI::cJ::cK::cL::cM::cN::cO::cP::cQ::cR::cS::cT::cU::cV::cW::cX::cY::[]) H = I i x1 x3 aH aI aJ H := propext ⟨fun h => h.2,fun h => ⟨rfl,h⟩⟩
theorem ub42_0 (M : Nat) (I : Nat → V → V → V → V → V → Heap → Prop) (step : ∀ i,i ≤ M → ∀ (x1 x3 aH aI aJ : V) (H : Heap),I i x1 x3 aH aI aJ H → ∀ (x0 x2 x4 x5 x6 x7 x8 x9 aA aB aC aD aE aF aG aK aL aM aN aO aP aQ aR aS aT aU aV aW aX aY aZ cA cB cC cD cE cF cG cH cI cJ cK cL cM cN cO cP cQ cR cS cT cU cV cW cX cY : V),wp G b42_0 (x0::x1::x2::x3::x4::x5::x6::x7::x8::x9::aA::aB::aC::aD::aE::aF::aG::aH::aI::aJ::aK::aL::aM::aN::aO::aP::aQ::aR::aS::aT::aU::aV::aW::aX::aY::aZ::cA::cB::cC::cD::cE::cF::cG::cH::cI::cJ::cK::cL::cM::cN::cO::cP::cQ::cR::cS::cT::cU::cV::cW::cX::cY::[]) H (upQ M (Sb42_0 I) i Q)) (i : Nat) (hi : i ≤ M) (h : I i x1 x3 aH aI aJ H) : Lp G b42_0 (x0::x1::x2::x3::x4::x5::x6::x7::x8::x9::aA::aB::aC::aD::aE::aF::aG::aH::aI::aJ::aK::aL::aM::aN::aO::aP::aQ::aR::aS::aT::aU::aV::aW::aX::aY::aZ::cA::cB::cC::cD::cE::cF::cG::cH::cI::cJ::cK::cL::cM::cN::cO::cP::cQ::cR::cS::cT::cU::cV::cW::cX::cY::[]) H Q :=
  Lp.up (S := Sb42_0 I) (fun i t H hi hS => (congrArg (fun t => wp G b42_0 t H (upQ M (Sb42_0 I) i Q)) (tabF_eq hS.1)).mpr (step i hi _ _ _ _ _ H hS.2 ..)) _ i _ H rfl hi ⟨rfl,h⟩
theorem wb42_1 : wp G b42_1 (x0::x1::x2::x3::x4::x5::x6::x7::x8::x9::aA::aB::aC::aD::aE::aF::aG::aH::aI::aJ::aK::aL::aM::aN::aO::aP::aQ::aR::aS::aT::aU::aV::aW::aX::aY::aZ::cA::cB::cC::cD::cE::cF::cG::cH::cI::cJ::cK::cL::cM::cN::cO::cP::cQ::cR::cS::cT::cU::cV::cW::z) H Q = (
  bd (binV .lss cG cF) fun p0=>
  ifB p0
   (bd (iadrV 1 cE cG) fun p1=>
   bd (ldV H p1 1 false) fun p2=>
   bd (iadrV 1 x3 p2) fun p3=>
   bd (ldV H p3 1 false) fun p4=>
   bd (iadrV 1 x3 x6) fun p5=>
   bd (ldV H p5 1 false) fun p6=>
   bd (maxV p4 p6) fun p7=>
   bd (iadrV 1 x3 p2) fun p8=>
   true = true ∧ bd (stV H 1 p8 p7) fun p9=>
   bd (binV .add cG (.int .i64 1)) fun pA=>
   Q .n (x0::x1::x2::x3::x4::x5::x6::x7::p2::x9::aA::aB::aC::aD::aE::aF::aG::aH::aI::aJ::aK::aL::aM::aN::aO::aP::aQ::aR::aS::aT::aU::aV::aW::aX::aY::aZ::cA::cB::cC::cD::cE::cF::pA::p0::p1::p2::x3::p2::x3::p2::p3::p4::x3::x6::p5::p6::p7::p8::pA::z) p9)
   (Q (.e 2) (x0::x1::x2::x3::x4::x5::x6::x7::x8::x9::aA::aB::aC::aD::aE::aF::aG::aH::aI::aJ::aK::aL::aM::aN::aO::aP::aQ::aR::aS::aT::aU::aV::aW::aX::aY::aZ::cA::cB::cC::cD::cE::cF::cG::p0::cI::cJ::cK::cL::cM::cN::cO::cP::cQ::cR::cS::cT::cU::cV::cW::z) H)) := by kernel_rfl
def Sb42_1 (I : Nat → V → V → V → V → V → V → V → V → V → Heap → Prop) : Nat → List V → Heap → Prop := fun i ts H => ts.length = 61 ∧ I i (ts.getD 1 undefV) (ts.getD 3 undefV) (ts.getD 6 undefV) (ts.getD 17 undefV) (ts.getD 18 undefV) (ts.getD 19 undefV) (ts.getD 40 undefV) (ts.getD 41 undefV) (ts.getD 42 undefV) H
@[simp] theorem Sb42_1_eq {I : Nat → V → V → V → V → V → V → V → V → V → Heap → Prop} {i : Nat} : Sb42_1 I i (x0::x1::x2::x3::x4::x5::x6::x7::x8::x9::aA::aB::aC::aD::aE::aF::aG::aH::aI::aJ::aK::aL::aM::aN::aO::aP::aQ::aR::aS::aT::aU::aV::aW::aX::aY::aZ::cA::cB::cC::cD::cE::cF::cG::cH::cI::cJ::cK::cL::cM::cN::cO::cP::cQ::cR::cS::cT::cU::cV::cW::cX::cY::[]) H = I i x1 x3 x6 aH aI aJ cE cF cG H := propext ⟨fun h => h.2,fun h => ⟨rfl,h⟩⟩
theorem ub42_1 (M : Nat) (I : Nat → V → V → V → V → V → V → V → V → V → Heap → Prop) (step : ∀ i,i ≤ M → ∀ (x1 x3 x6 aH aI aJ cE cF cG : V) (H : Heap),I i x1 x3 x6 aH aI aJ cE cF cG H → ∀ (x0 x2 x4 x5 x7 x8 x9 aA aB aC aD aE aF aG aK aL aM aN aO aP aQ aR aS aT aU aV aW aX aY aZ cA cB cC cD cH cI cJ cK cL cM cN cO cP cQ cR cS cT cU cV cW cX cY : V),wp G b42_1 (x0::x1::x2::x3::x4::x5::x6::x7::x8::x9::aA::aB::aC::aD::aE::aF::aG::aH::aI::aJ::aK::aL::aM::aN::aO::aP::aQ::aR::aS::aT::aU::aV::aW::aX::aY::aZ::cA::cB::cC::cD::cE::cF::cG::cH::cI::cJ::cK::cL::cM::cN::cO::cP::cQ::cR::cS::cT::cU::cV::cW::cX::cY::[]) H (upQ M (Sb42_1 I) i Q)) (i : Nat) (hi : i ≤ M) (h : I i x1 x3 x6 aH aI aJ cE cF cG H) : Lp G b42_1 (x0::x1::x2::x3::x4::x5::x6::x7::x8::x9::aA::aB::aC::aD::aE::aF::aG::aH::aI::aJ::aK::aL::aM::aN::aO::aP::aQ::aR::aS::aT::aU::aV::aW::aX::aY::aZ::cA::cB::cC::cD::cE::cF::cG::cH::cI::cJ::cK::cL::cM::cN::cO::cP::cQ::cR::cS::cT::cU::cV::cW::cX::cY::[]) H Q :=
  Lp.up (S := Sb42_1 I) (fun i t H hi hS => (congrArg (fun t => wp G b42_1 t H (upQ M (Sb42_1 I) i Q)) (tabF_eq hS.1)).mpr (step i hi _ _ _ _ _ _ _ _ _ H hS.2 ..)) _ i _ H rfl hi ⟨rfl,h⟩
theorem wr42_2 : wp G r42_2 (x0::x1::x2::x3::x4::x5::x6::x7::x8::x9::aA::aB::aC::aD::aE::aF::aG::aH::aI::aJ::aK::aL::aM::aN::aO::aP::aQ::aR::aS::aT::aU::aV::aW::aX::aY::aZ::cA::cB::cC::cD::cE::cF::cG::cH::cI::cJ::cK::cL::cM::cN::cO::cP::cQ::cR::cS::cT::cU::cV::cW::cX::cY::[]) H Q = (
  bd (binV .add aJ (.int .i64 1)) fun p0=>
  Q .n (x0::x1::x2::x3::x4::x5::x6::x7::x8::x9::aA::aB::aC::aD::aE::aF::aG::aH::aI::p0::aK::aL::aM::aN::aO::aP::aQ::aR::aS::aT::aU::aV::aW::aX::aY::aZ::cA::cB::cC::cD::cE::cF::cG::cH::cI::cJ::cK::cL::cM::cN::cO::cP::cQ::cR::cS::cT::cU::cV::cW::p0::cY::[]) H) := by kernel_rfl
theorem wr42_3 : wp G r42_3 (x0::x1::x2::x3::x4::x5::x6::x7::x8::x9::aA::aB::aC::aD::aE::aF::aG::aH::aI::aJ::aK::aL::aM::aN::aO::aP::aQ::aR::aS::aT::aU::aV::aW::aX::aY::aZ::cA::cB::cC::cD::cE::cF::cG::cH::cI::cJ::cK::cL::cM::cN::cO::cP::cQ::cR::cS::cT::cU::cV::cW::cX::cY::[]) H Q = (
  Q .r (x0::x1::x3::x3::x4::x5::x6::x7::x8::x9::aA::aB::aC::aD::aE::aF::aG::aH::aI::aJ::aK::aL::aM::aN::aO::aP::aQ::aR::aS::aT::aU::aV::aW::aX::aY::aZ::cA::cB::cC::cD::cE::cF::cG::cH::cI::cJ::cK::cL::cM::cN::cO::cP::cQ::cR::cS::cT::cU::cV::cW::cX::x3::[]) H) := by kernel_rfl
theorem w43 : runW G i43 [x0] H k = (
  bd (lensV x0) fun p0=>
  bd (binV .lss p0 (.int .i64 1)) fun p1=>
  ifB p1
   (False)
   (wp G r43_0 [x0,undefV,(.int .i64 0),undefV,undefV,x0,p0,p1,undefV,undefV,undefV,undefV,undefV,undefV,undefV,undefV,undefV,undefV,undefV,undefV,undefV,undefV,undefV,undefV,undefV] H (retQ i43 k))) := by kernel_rfl
@[simp] theorem ret43 : retQ i43 k .r (x0::x1::x2::z) H = k x2 H := nrfl
theorem wr43_0 : wp G r43_0 (x0::x1::x2::x3::x4::x5::x6::x7::x8::x9::aA::aB::z) H Q = (
  bd (iadrV 1 x0 (.int .i64 0)) fun p0=>
  bd (ldV H p0 1 false) fun p1=>
  Lp G b43_1 (x0::x1::x2::p1::(.int .i64 1)::x5::x6::x7::x8::x0::p0::p1::z) H (blockQ 0 (seqQ G r43_2 Q))) := by kernel_rfl
theorem wb43_1 : wp G b43_1 [x0,x1,x2,x3,x4,x5,x6,x7,x8,x9,aA,aB,aC,aD,aE,aF,aG,aH,aI,aJ,aK,aL,aM,aN,aO] H Q = (
  bd (lensV x0) fun p0=>
  bd (binV .lss x4 p0) fun p1=>
  ifB p1
   (bd (iadrV 1 x0 x4) fun p2=>
   bd (ldV H p2 1 false) fun p3=>
   bd (maxV x3 p3) fun p4=>
   bd (binV .add x4 (.int .i64 1)) fun p5=>
   Q .n [x0,x1,x2,p4,p5,x5,x6,x7,x8,x9,aA,aB,x4,x0,p0,p1,x4,p5,x3,x0,x4,p2,p3,p4,aO] H)
   (Q (.e 0) [x0,x1,x2,x3,x4,x5,x6,x7,x8,x9,aA,aB,x4,x0,p0,p1,aG,aH,aI,aJ,aK,aL,aM,aN,aO] H)) := by kernel_rfl
def Sb43_1 (I : Nat → V → V → V → Heap → Prop) : Nat → List V → Heap → Prop := fun i ts H => ts.length = 25 ∧ I i (ts.getD 0 undefV) (ts.getD 3 undefV) (ts.getD 4 undefV) H
@[simp] theorem Sb43_1_eq {I : Nat → V → V → V → Heap → Prop} {i : Nat} : Sb43_1 I i [x0,x1,x2,x3,x4,x5,x6,x7,x8,x9,aA,aB,aC,aD,aE,aF,aG,aH,aI,aJ,aK,aL,aM,aN,aO] H = I i x0 x3 x4 H := propext ⟨fun h => h.2,fun h => ⟨rfl,h⟩⟩
theorem ub43_1 (M : Nat) (I : Nat → V → V → V → Heap → Prop) (step : ∀ i,i ≤ M → ∀ (x0 x3 x4 : V) (H : Heap),I i x0 x3 x4 H → ∀ (x1 x2 x5 x6 x7 x8 x9 aA aB aC aD aE aF aG aH aI aJ aK aL aM aN aO : V),wp G b43_1 [x0,x1,x2,x3,x4,x5,x6,x7,x8,x9,aA,aB,aC,aD,aE,aF,aG,aH,aI,aJ,aK,aL,aM,aN,aO] H (upQ M (Sb43_1 I) i Q)) (i : Nat) (hi : i ≤ M) (h : I i x0 x3 x4 H) : Lp G b43_1 [x0,x1,x2,x3,x4,x5,x6,x7,x8,x9,aA,aB,aC,aD,aE,aF,aG,aH,aI,aJ,aK,aL,aM,aN,aO] H Q :=
  Lp.up (S := Sb43_1 I) (fun i t H hi hS => (congrArg (fun t => wp G b43_1 t H (upQ M (Sb43_1 I) i Q)) (tabF_eq hS.1)).mpr (step i hi _ _ _ H hS.2 ..)) _ i _ H rfl hi ⟨rfl,h⟩
theorem wr43_2 : wp G r43_2 [x0,x1,x2,x3,x4,x5,x6,x7,x8,x9,aA,aB,aC,aD,aE,aF,aG,aH,aI,aJ,aK,aL,aM,aN,aO] H Q = (
  Q .r [x0,x1,x3,x3,x4,x5,x6,x7,x8,x9,aA,aB,aC,aD,aE,aF,aG,aH,aI,aJ,aK,aL,aM,aN,x3] H) := by kernel_rfl
theorem w44 : runW G i44 [x0,x1,x2,x3,x4,x5] H k = (
  bd (fadrV 0 x2) fun p0=>
  bd (ldV H p0 1 false) fun p1=>
  bd (lensV p1) fun p2=>
  Lp G b44_0 [x0,x1,x2,x3,x4,x5,undefV,undefV,undefV,undefV,p0,p1,p2,(.int .i64 0),undefV,undefV,undefV,undefV,undefV,undefV,undefV,undefV,undefV,undefV,undefV,undefV,undefV,undefV,undefV,undefV,undefV,undefV,undefV,undefV,undefV,undefV,undefV,undefV,undefV,undefV,undefV,undefV,undefV,undefV,undefV,undefV,undefV,undefV,undefV,undefV] H (blockQ 0 (retQ i44 k))) := by kernel_rfl
@[simp] theorem ret44 : retQ i44 k .r (z) H = k (.tup []) H := nrfl
@[simp] theorem ret44n : retQ i44 k .n (z) H = k (.tup []) H := nrfl
theorem wb44_0 : wp G b44_0 [x0,x1,x2,x3,x4,x5,x6,x7,x8,x9,aA,aB,aC,aD,aE,aF,aG,aH,aI,aJ,aK,aL,aM,aN,aO,aP,aQ,aR,aS,aT,aU,aV,aW,aX,aY,aZ,cA,cB,cC,cD,cE,cF,cG,cH,cI,cJ,cK,cL,cM,cN] H Q = (
  bd (binV .lss aD aC) fun p0=>
  ifB p0
   (bd (iadrV 4 aB aD) fun p1=>
   bd (ldV H p1 4 true) fun p2=>
   newB H (.cells [(.str []),(.int .i64 0),(.str []),.nils]) fun p3 p4=>
   true = true ∧ bd (stV p4 4 p3 p2) fun p5=>
   bd2 (frzV p5 p3) fun p6 p7=>
   bd (binV .gtr x1 (.int .i64 0)) fun p8=>
   wpg (gdV p8 true) p7 (fun k => bd (ldV p7 x3 1 false) fun p9 => k p9 p7) fun pA pB=>
   wpg (gdV p8 true) pB (fun k => k aD pB) fun pC pD=>
   wpg (gdV p8 true) pD (fun k => bd (iadrV 1 pA pC) fun pE => k pE pD) fun pF pG=>
   wpg (gdV p8 true) pG (fun k => bd (ldV pG pF 1 false) fun pH => k pH pG) fun pI pJ=>
   wpg (gdV p8 true) pJ (fun k => k x1 pJ) fun pK pL=>
   wpg (gdV p8 true) pL (fun k => bd (binV .eql pI pK) fun pM => k pM pL) fun pN pO=>
   bd (pickV p8 pN (.bool false)) fun pP=>
   wpg (gdV pP true) pO (fun k => k x0 pO) fun pQ pR=>
   wpg (gdV pP true) pR (fun k => bd (binV .lss pQ (.int .i64 0)) fun pS => k pS pR) fun pT pU=>
   wpg (gdV pP true) pU (fun k => k pT pU) fun pV pW=>
   wpg (gdV pV false) pW (fun k => bd (fadrV 3 p6) fun pX => k pX pW) fun pY pZ=>
   wpg (gdV pV false) pZ (fun k => bd (ldrV pY 1 false) fun pa => k pa pZ) fun pb pc=>
   wpg (gdV pV false) pc (fun k => k x0 pc) fun pd pe=>
   wpg (gdV pV false) pe (fun k => (true || G.pur 45) = true ∧ Cl G 45 [pb,pd] pe fun pf pg => k pf pg) fun ph pi=>
   wpg (gdV pP true) pi (fun k => bd (pickV pV (.bool true) ph) fun pj => k pj pi) fun pk pl=>
   bd (pickV pP pk (.bool false)) fun pm=>
   ifB pm
    (bd (ldV pl x4 1 false) fun pn=>
    bd2 (bslV 1 1 [(.int .i64 0)] [(0,1,aD)] pl) fun po pp=>
    bd2 (appV 1 8 true pp pn po) fun pq pr=>
    true = true ∧ bd (stV pr 1 x4 pq) fun ps=>
    bd (ldV ps x5 1 false) fun pt=>
    bd (fadrV 1 p6) fun pu=>
    bd (ldrV pu 1 false) fun pv=>
    bd (binV .sub x1 pv) fun pw=>
    bd (callV pt) fun c => (true || G.pur c.1) = true ∧ Cl G c.1 ([aD,pw] ++ c.2) ps fun px py=>
    Q .r [x0,x1,x2,x3,x4,x5,x6,x7,aD,p6,aA,aB,aC,aD,p0,aD,p1,p2,x1,p8,p8,pA,pC,pF,pI,pK,pN,pP,pP,pQ,pT,pV,pY,pb,pd,ph,pk,pm,pn,aD,po,pq,pt,aD,x1,pu,pv,pw,px,cN] py)
    (bd (binV .add aD (.int .i64 1)) fun pz=>
    Q .n [x0,x1,x2,x3,x4,x5,x6,x7,aD,p6,aA,aB,aC,pz,p0,aD,p1,p2,x1,p8,p8,pA,pC,pF,pI,pK,pN,pP,pP,pQ,pT,pV,pY,pb,pd,ph,pk,pm,cC,cD,cE,cF,cG,cH,cI,cJ,cK,cL,cM,pz] pl))
   (Q (.e 0) [x0,x1,x2,x3,x4,x5,x6,x7,x8,x9,aA,aB,aC,aD,p0,aF,aG,aH,aI,aJ,aK,aL,aM,aN,aO,aP,aQ,aR,aS,aT,aU,aV,aW,aX,aY,aZ,cA,cB,cC,cD,cE,cF,cG,cH,cI,cJ,cK,cL,cM,cN] H)) := by kernel_rfl
def Sb44_0 (I : Nat → V → V → V → V → V → V → V → V → Heap → Prop) : Nat → List V → Heap → Prop := fun i ts H => ts.length = 50 ∧ I i (ts.getD 0 undefV) (ts.getD 1 undefV) (ts.getD 3 undefV) (ts.getD 4 undefV) (ts.getD 5 undefV) (ts.getD 11 undefV) (ts.getD 12 undefV) (ts.getD 13 undefV) H
@[simp] theorem Sb44_0_eq {I : Nat → V → V → V → V → V → V → V → V → Heap → Prop} {i : Nat} : Sb44_0 I i [x0,x1,x2,x3,x4,x5,x6,x7,x8,x9,aA,aB,aC,aD,aE,aF,aG,aH,aI,aJ,aK,aL,aM,aN,aO,aP,aQ,aR,aS,aT,aU,aV,aW,aX,aY,aZ,cA,cB,cC,cD,cE,cF,cG,cH,cI,cJ,cK,cL,cM,cN] H = I i x0 x1 x3 x4 x5 aB aC aD H := propext ⟨fun h => h.2,fun h => ⟨rfl,h⟩⟩
theorem ub44_0 (M : Nat) (I : Nat → V → V → V → V → V → V → V → V → Heap → Prop) (step : ∀ i,i ≤ M → ∀ (x0 x1 x3 x4 x5 aB aC aD : V) (H : Heap),I i x0 x1 x3 x4 x5 aB aC aD H → ∀ (x2 x6 x7 x8 x9 aA aE aF aG aH aI aJ aK aL aM aN aO aP aQ aR aS aT aU aV aW aX aY aZ cA cB cC cD cE cF cG cH cI cJ cK cL cM cN : V),wp G b44_0 [x0,x1,x2,x3,x4,x5,x6,x7,x8,x9,aA,aB,aC,aD,aE,aF,aG,aH,aI,aJ,aK,aL,aM,aN,aO,aP,aQ,aR,aS,aT,aU,aV,aW,aX,aY,aZ,cA,cB,cC,cD,cE,cF,cG,cH,cI,cJ,cK,cL,cM,cN] H (upQ M (Sb44_0 I) i Q)) (i : Nat) (hi : i ≤ M) (h : I i x0 x1 x3 x4 x5 aB aC aD H) : Lp G b44_0 [x0,x1,x2,x3,x4,x5,x6,x7,x8,x9,aA,aB,aC,aD,aE,aF,aG,aH,aI,aJ,aK,aL,aM,aN,aO,aP,aQ,aR,aS,aT,aU,aV,aW,aX,aY,aZ,cA,cB,cC,cD,cE,cF,cG,cH,cI,cJ,cK,cL,cM,cN] H Q :=
  Lp.up (S := Sb44_0 I) (fun i t H hi hS => (congrArg (fun t => wp G b44_0 t H (upQ M (Sb44_0 I) i Q)) (tabF_eq hS.1)).mpr (step i hi _ _ _ _ _ _ _ _ H hS.2 ..)) _ i _ H rfl hi ⟨rfl,h⟩
theorem w46 : runW G i46 [x0] H k = (
  bd (bxrV x0) fun p0=>
  bd (fadrV 0 p0) fun p1=>
  bd (ldV H p1 1 false) fun p2=>
  bd (lensV p2) fun p3=>
  bd2 (mksV 1 24 [.nils] H p3 p3) fun p4 p5=>
  bd (ldV p5 p0 2 true) fun p6=>
  (true || G.pur 56) = true ∧ Cl G 56 [p6] p5 fun p7 p8=>
  bd (lensV p7) fun p9=>
  Lp G b46_0 (x0::p0::.nils::p4::undefV::undefV::undefV::undefV::undefV::undefV::p1::p2::p3::p4::p6::p7::p9::(.int .i64 0)::undefV::undefV::undefV::undefV::undefV::undefV::undefV::undefV::undefV::undefV::undefV::undefV::undefV::undefV::undefV::undefV::undefV::undefV::undefV::undefV::undefV::undefV::undefV::undefV::undefV::undefV::undefV::undefV::undefV::undefV::undefV::undefV::undefV::undefV::undefV::undefV::undefV::undefV::undefV::undefV::undefV::undefV::undefV::undefV::undefV::undefV::undefV::undefV::undefV::undefV::undefV::undefV::undefV::undefV::undefV::undefV::undefV::[]) p8 (blockQ 0 (seqQ G r46_5 (retQ i46 k)))) := by kernel_rfl
@[simp] theorem ret46 : retQ i46 k .r (x0::x1::x2::z) H = k x2 H := nrfl
theorem wb46_0 : wp G b46_0 (x0::x1::x2::x3::x4::x5::x6::x7::x8::x9::aA::aB::aC::aD::aE::aF::aG::aH::aI::aJ::aK::aL::aM::aN::aO::aP::aQ::aR::aS::aT::aU::aV::aW::aX::aY::aZ::z) H Q = (
  bd (binV .lss aH aG) fun p0=>
  ifB p0
   (bd (iadrV 1 aF aH) fun p1=>
   bd (ldV H p1 1 false) fun p2=>
   bd (fadrV 0 x1) fun p3=>
   bd (ldV H p3 1 false) fun p4=>
   bd (lensV p4) fun p5=>
   bd2 (mksV 1 1 [(.bool false)] H p5 p5) fun p6 p7=>
   bd (iadrV 1 x3 p2) fun p8=>
   true = true ∧ bd (stV p7 1 p8 p6) fun p9=>
   bd (fadrV 0 x1) fun pA=>
   bd (ldV p9 pA 1 false) fun pB=>
   bd (iadrV 4 pB p2) fun pC=>
   bd (fadrV 3 pC) fun pD=>
   bd (ldV p9 pD 1 false) fun pE=>
   bd (lensV pE) fun pF=>
   Lp G b46_1 (x0::x1::x2::x3::x4::p2::x6::x7::x8::x9::aA::aB::aC::aD::aE::aF::aG::aH::p0::p1::p2::x3::p2::p3::p4::p5::p6::p8::pA::pB::p2::pC::pD::pE::pF::(.int .i64 0)::z) p9 (blockQ 2 (blockQ 1 (seqQ G r46_4 Q))))
   (Q (.e 0) (x0::x1::x2::x3::x4::x5::x6::x7::x8::x9::aA::aB::aC::aD::aE::aF::aG::aH::p0::aJ::aK::aL::aM::aN::aO::aP::aQ::aR::aS::aT::aU::aV::aW::aX::aY::aZ::z) H)) := by kernel_rfl
def Sb46_0 (I : Nat → V → V → V → V → V → Heap → Prop) : Nat → List V → Heap → Prop := fun i ts H => ts.length = 75 ∧ I i (ts.getD 1 undefV) (ts.getD 3 undefV) (ts.getD 15 undefV) (ts.getD 16 undefV) (ts.getD 17 undefV) H
@[simp] theorem Sb46_0_eq {I : Nat → V → V → V → V → V → Heap → Prop} {i : Nat} : Sb46_0 I i (x0::x1::x2::x3::x4::x5::x6::x7::x8::x9::aA::aB::aC::aD::aE::aF::aG::aH::aI::aJ::aK::aL::aM::aN::aO::aP::aQ::aR::aS::aT::aU::aV::aW::aX::aY::aZ::cA::cB::cC::cD::cE::cF::cG::cH::cI::cJ::cK::cL::cM::cN::cO::cP::cQ::cR::cS::cT::cU::cV::cW::cX::cY::cZ::dA::dB::dC::dD::dE::dF::dG::dH::dI::dJ::dK::dL::dM::[]) H = I i x1 x3 aF aG aH H := propext ⟨fun h => h.2,fun h => ⟨rfl,h⟩⟩
theorem ub46_0 (M : Nat) (I : Nat → V → V → V → V → V → Heap → Prop) (step : ∀ i,i ≤ M → ∀ (x1 x3 aF aG aH : V) (H : Heap),I i x1 x3 aF aG aH H → ∀ (x0 x2 x4 x5 x6 x7 x8 x9 aA aB aC aD aE aI aJ aK aL aM aN aO aP aQ aR aS aT aU aV aW aX aY aZ cA cB cC cD cE cF cG cH cI cJ cK cL cM cN cO cP cQ cR cS cT cU cV cW cX cY cZ dA dB dC dD dE dF dG dH dI dJ dK dL dM : V),wp G b46_0 (x0::x1::x2::x3::x4::x5::x6::x7::x8::x9::aA::aB::aC::aD::aE::aF::aG::aH::aI::aJ::aK::aL::aM::aN::aO::aP::aQ::aR::aS::aT::aU::aV::aW::aX::aY::aZ::cA::cB::cC::cD::cE::cF::cG::cH::cI::cJ::cK::cL::cM::cN::cO::cP::cQ::cR::cS::cT::cU::cV::cW::cX::cY::cZ::dA::dB::dC::dD::dE::dF::dG::dH::dI::dJ::dK::dL::dM::[]) H (upQ M (Sb46_0 I) i Q)) (i : Nat) (hi : i ≤ M) (h : I i x1 x3 aF aG aH H) : Lp G b46_0 (x0::x1::x2::x3::x4::x5::x6::x7::x8::x9::aA::aB::aC::aD::aE::aF::aG::aH::aI::aJ::aK::aL::aM::aN::aO::aP::aQ::aR::aS::aT::aU::aV::aW::aX::aY::aZ::cA::cB::cC::cD::cE::cF::cG::cH::cI::cJ::cK::cL::cM::cN::cO::cP::cQ::cR::cS::cT::cU::cV::cW::cX::cY::cZ::dA::dB::dC::dD::dE::dF::dG::dH::dI::dJ::dK::dL::dM::[]) H Q :=
  Lp.up (S := Sb46_0 I) (fun i t H hi hS => (congrArg (fun t => wp G b46_0 t H (upQ M (Sb46_0 I) i Q)) (tabF_eq hS.1)).mpr (step i hi _ _ _ _ _ H hS.2 ..)) _ i _ H rfl hi ⟨rfl,h⟩
theorem wb46_1 : wp G b46_1 (x0::x1::x2::x3::x4::x5::x6::x7::x8::x9::aA::aB::aC::aD::aE::aF::aG::aH::aI::aJ::aK::aL::aM::aN::aO::aP::aQ::aR::aS::aT::aU::aV::aW::aX::aY::aZ::cA::cB::cC::cD::cE::cF::cG::cH::cI::cJ::cK::cL::cM::cN::cO::z) H Q = (
  bd (binV .lss aZ aY) fun p0=>
  ifB p0
   (bd (iadrV 1 aX aZ) fun p1=>
   bd (ldV H p1 1 false) fun p2=>
   bd (iadrV 1 x3 x5) fun p3=>
   bd (ldV H p3 1 false) fun p4=>
   bd (iadrV 1 p4 p2) fun p5=>
   true = true ∧ bd (stV H 1 p5 (.bool true)) fun p6=>
   bd (iadrV 1 x3 p2) fun p7=>
   bd (ldV p6 p7 1 false) fun p8=>
   bd (lensV p8) fun p9=>
   Lp G b46_2 (x0::x1::x2::x3::x4::x5::x6::p2::x8::x9::aA::aB::aC::aD::aE::aF::aG::aH::aI::aJ::aK::aL::aM::aN::aO::aP::aQ::aR::aS::aT::aU::aV::aW::aX::aY::aZ::p0::p1::p2::x3::x5::p3::p4::p2::p5::x3::p2::p7::p8::p9::(.int .i64 0)::z) p6 (blockQ 4 (blockQ 3 (seqQ G r46_3 Q))))
   (Q (.e 2) (x0::x1::x2::x3::x4::x5::x6::x7::x8::x9::aA::aB::aC::aD::aE::aF::aG::aH::aI::aJ::aK::aL::aM::aN::aO::aP::aQ::aR::aS::aT::aU::aV::aW::aX::aY::aZ::p0::cB::cC::cD::cE::cF::cG::cH::cI::cJ::cK::cL::cM::cN::cO::z) H)) := by kernel_rfl
def Sb46_1 (I : Nat → V → V → V → V → V → V → V → V → V → Heap → Prop) : Nat → List V → Heap → Prop := fun i ts H => ts.length = 75 ∧ I i (ts.getD 1 undefV) (ts.getD 3 undefV) (ts.getD 5 undefV) (ts.getD 15 undefV) (ts.getD 16 undefV) (ts.getD 17 undefV) (ts.getD 33 undefV) (ts.getD 34 undefV) (ts.getD 35 undefV) H
@[simp] theorem Sb46_1_eq {I : Nat → V → V → V → V → V → V → V → V → V → Heap → Prop} {i : Nat} : Sb46_1 I i (x0::x1::x2::x3::x4::x5::x6::x7::x8::x9::aA::aB::aC::aD::aE::aF::aG::aH::aI::aJ::aK::aL::aM::aN::aO::aP::aQ::aR::aS::aT::aU::aV::aW::aX::aY::aZ::cA::cB::cC::cD::cE::cF::cG::cH::cI::cJ::cK::cL::cM::cN::cO::cP::cQ::cR::cS::cT::cU::cV::cW::cX::cY::cZ::dA::dB::dC::dD::dE::dF::dG::dH::dI::dJ::dK::dL::dM::[]) H = I i x1 x3 x5 aF aG aH aX aY aZ H := propext ⟨fun h => h.2,fun h => ⟨rfl,h⟩⟩
theorem ub46_1 (M : Nat) (I : Nat → V → V → V → V → V → V → V → V → V → Heap → Prop) (step : ∀ i,i ≤ M → ∀ (x1 x3 x5 aF aG aH aX aY aZ : V) (H : Heap),I i x1 x3 x5 aF aG aH aX aY aZ H → ∀ (x0 x2 x4 x6 x7 x8 x9 aA aB aC aD aE aI aJ aK aL aM aN aO aP aQ aR aS aT aU aV aW cA cB cC cD cE cF cG cH cI cJ cK cL cM cN cO cP cQ cR cS cT cU cV cW cX cY cZ dA dB dC dD dE dF dG dH dI dJ dK dL dM : V),wp G b46_1 (x0::x1::x2::x3::x4::x5::x6::x7::x8::x9::aA::aB::aC::aD::aE::aF::aG::aH::aI::aJ::aK::aL::aM::aN::aO::aP::aQ::aR::aS::aT::aU::aV::aW::aX::aY::aZ::cA::cB::cC::cD::cE::cF::cG::cH::cI::cJ::cK::cL::cM::cN::cO::cP::cQ::cR::cS::cT::cU::cV::cW::cX::cY::cZ::dA::dB::dC::dD::dE::dF::dG::dH::dI::dJ::dK::dL::dM::[]) H (upQ M (Sb46_1 I) i Q)) (i : Nat) (hi : i ≤ M) (h : I i x1 x3 x5 aF aG aH aX aY aZ H) : Lp G b46_1 (x0::x1::x2::x3::x4::x5::x6::x7::x8::x9::aA::aB::aC::aD::aE::aF::aG::aH::aI::aJ::aK::aL::aM::aN::aO::aP::aQ::aR::aS::aT::aU::aV::aW::aX::aY::aZ::cA::cB::cC::cD::cE::cF::cG::cH::cI::cJ::cK::cL::cM::cN::cO::cP::cQ::cR::cS::cT::cU::cV::cW::cX::cY::cZ::dA::dB::dC::dD::dE::dF::dG::dH::dI::dJ::dK::dL::dM::[]) H Q :=
  Lp.up (S := Sb46_1 I) (fun i t H hi hS => (congrArg (fun t => wp G b46_1 t H (upQ M (Sb46_1 I) i Q)) (tabF_eq hS.1)).mpr (step i hi _ _ _ _ _ _ _ _ _ H hS.2 ..)) _ i _ H rfl hi ⟨rfl,h⟩
theorem wb46_2 : wp G b46_2 (x0::x1::x2::x3::x4::x5::x6::x7::x8::x9::aA::aB::aC::aD::aE::aF::aG::aH::aI::aJ::aK::aL::aM::aN::aO::aP::aQ::aR::aS::aT::aU::aV::aW::aX::aY::aZ::cA::cB::cC::cD::cE::cF::cG::cH::cI::cJ::cK::cL::cM::cN::cO::cP::cQ::cR::cS::cT::cU::cV::cW::cX::cY::cZ::dA::dB::dC::dD::dE::dF::dG::dH::dI::dJ::z) H Q = (
  bd (binV .lss cO cN) fun p0=>
  ifB p0
   (bd (iadrV 1 cM cO) fun p1=>
   bd (ldV H p1 1 false) fun p2=>
   bd (iadrV 1 x3 x5) fun p3=>
   bd (ldV H p3 1 false) fun p4=>
   bd (iadrV 1 x3 x5) fun p5=>
   bd (ldV H p5 1 false) fun p6=>
   bd (iadrV 1 p6 cO) fun p7=>
   bd (ldV H p7 1 false) fun p8=>
   wpg (gdV p8 false) H (fun k => k p2 H) fun p9 pA=>
   bd (pickV p8 (.bool true) p9) fun pB=>
   bd (iadrV 1 p4 cO) fun pC=>
   true = true ∧ bd (stV pA 1 pC pB) fun pD=>
   bd (binV .add cO (.int .i64 1)) fun pE=>
   Q .n (x0::x1::x2::x3::x4::x5::x6::x7::cO::p2::aA::aB::aC::aD::aE::aF::aG::aH::aI::aJ::aK::aL::aM::aN::aO::aP::aQ::aR::aS::aT::aU::aV::aW::aX::aY::aZ::cA::cB::cC::cD::cE::cF::cG::cH::cI::cJ::cK::cL::cM::cN::pE::p0::cO::p1::p2::x3::x5::p3::p4::cO::x3::x5::p5::p6::cO::p7::p8::p8::p9::pB::pC::pE::z) pD)
   (Q (.e 4) (x0::x1::x2::x3::x4::x5::x6::x7::x8::x9::aA::aB::aC::aD::aE::aF::aG::aH::aI::aJ::aK::aL::aM::aN::aO::aP::aQ::aR::aS::aT::aU::aV::aW::aX::aY::aZ::cA::cB::cC::cD::cE::cF::cG::cH::cI::cJ::cK::cL::cM::cN::cO::p0::cQ::cR::cS::cT::cU::cV::cW::cX::cY::cZ::dA::dB::dC::dD::dE::dF::dG::dH::dI::dJ::z) H)) := by kernel_rfl
def Sb46_2 (I : Nat → V → V → V → V → V → V → V → V → V → V → V → V → Heap → Prop) : Nat → List V → Heap → Prop := fun i ts H => ts.length = 75 ∧ I i (ts.getD 1 undefV) (ts.getD 3 undefV) (ts.getD 5 undefV) (ts.getD 15 undefV) (ts.getD 16 undefV) (ts.getD 17 undefV) (ts.getD 33 undefV) (ts.getD 34 undefV) (ts.getD 35 undefV) (ts.getD 48 undefV) (ts.getD 49 undefV) (ts.getD 50 undefV) H
@[simp] theorem Sb46_2_eq {I : Nat → V → V → V → V → V → V → V → V → V → V → V → V → Heap → Prop} {i : Nat} : Sb46_2 I i (x0::x1::x2::x3::x4::x5::x6::x7::x8::x9::aA::aB::aC::aD::aE::aF::aG::aH::aI::aJ::aK::aL::aM::aN::aO::aP::aQ::aR::aS::aT::aU::aV::aW::aX::aY::aZ::cA::cB::cC::cD::cE::cF::cG::cH::cI::cJ::cK::cL::cM::cN::cO::cP::cQ::cR::cS::cT::cU::cV::cW::cX::cY::cZ::dA::dB::dC::dD::dE::dF::dG::dH::dI::dJ::dK::dL::dM::[]) H = I i x1 x3 x5 aF aG aH aX aY aZ cM cN cO H := propext ⟨fun h => h.2,fun h => ⟨rfl,h⟩⟩
theorem ub46_2 (M : Nat) (I : Nat → V → V → V → V → V → V → V → V → V → V → V → V → Heap → Prop) (step : ∀ i,i ≤ M → ∀ (x1 x3 x5 aF aG aH aX aY aZ cM cN cO : V) (H : Heap),I i x1 x3 x5 aF aG aH aX aY aZ cM cN cO H → ∀ (x0 x2 x4 x6 x7 x8 x9 aA aB aC aD aE aI aJ aK aL aM aN aO aP aQ aR aS aT aU aV aW cA cB cC cD cE cF cG cH cI cJ cK cL cP cQ cR cS cT cU cV cW cX cY cZ dA dB dC dD dE dF dG dH dI dJ dK dL dM : V),wp G b46_2 (x0::x1::x2::x3::x4::x5::x6::x7::x8::x9::aA::aB::aC::aD::aE::aF::aG::aH::aI::aJ::aK::aL::aM::aN::aO::aP::aQ::aR::aS::aT::aU::aV::aW::aX::aY::aZ::cA::cB::cC::cD::cE::cF::cG::cH::cI::cJ::cK::cL::cM::cN::cO::cP::cQ::cR::cS::cT::cU::cV::cW::cX::cY::cZ::dA::dB::dC::dD::dE::dF::dG::dH::dI::dJ::dK::dL::dM::[]) H (upQ M (Sb46_2 I) i Q)) (i : Nat) (hi : i ≤ M) (h : I i x1 x3 x5 aF aG aH aX aY aZ cM cN cO H) : Lp G b46_2 (x0::x1::x2::x3::x4::x5::x6::x7::x8::x9::aA::aB::aC::aD::aE::aF::aG::aH::aI::aJ::aK::aL::aM::aN::aO::aP::aQ::aR::aS::aT::aU::aV::aW::aX::aY::aZ::cA::cB::cC::cD::cE::cF::cG::cH::cI::cJ::cK::cL::cM::cN::cO::cP::cQ::cR::cS::cT::cU::cV::cW::cX::cY::cZ::dA::dB::dC::dD::dE::dF::dG::dH::dI::dJ::dK::dL::dM::[]) H Q :=
  Lp.up (S := Sb46_2 I) (fun i t H hi hS => (congrArg (fun t => wp G b46_2 t H (upQ M (Sb46_2 I) i Q)) (tabF_eq hS.1)).mpr (step i hi _ _ _ _ _ _ _ _ _ _ _ _ H hS.2 ..)) _ i _ H rfl hi ⟨rfl,h⟩
theorem wr46_3 : wp G r46_3 (x0::x1::x2::x3::x4::x5::x6::x7::x8::x9::aA::aB::aC::aD::aE::aF::aG::aH::aI::aJ::aK::aL::aM::aN::aO::aP::aQ::aR::aS::aT::aU::aV::aW::aX::aY::aZ::cA::cB::cC::cD::cE::cF::cG::cH::cI::cJ::cK::cL::cM::cN::cO::cP::cQ::cR::cS::cT::cU::cV::cW::cX::cY::cZ::dA::dB::dC::dD::dE::dF::dG::dH::dI::dJ::dK::z) H Q = (
  bd (binV .add aZ (.int .i64 1)) fun p0=>
  Q .n (x0::x1::x2::x3::x4::x5::x6::x7::x8::x9::aA::aB::aC::aD::aE::aF::aG::aH::aI::aJ::aK::aL::aM::aN::aO::aP::aQ::aR::aS::aT::aU::aV::aW::aX::aY::p0::cA::cB::cC::cD::cE::cF::cG::cH::cI::cJ::cK::cL::cM::cN::cO::cP::cQ::cR::cS::cT::cU::cV::cW::cX::cY::cZ::dA::dB::dC::dD::dE::dF::dG::dH::dI::dJ::p0::z) H) := by kernel_rfl
theorem wr46_4 : wp G r46_4 (x0::x1::x2::x3::x4::x5::x6::x7::x8::x9::aA::aB::aC::aD::aE::aF::aG::aH::aI::aJ::aK::aL::aM::aN::aO::aP::aQ::aR::aS::aT::aU::aV::aW::aX::aY::aZ::cA::cB::cC::cD::cE::cF::cG::cH::cI::cJ::cK::cL::cM::cN::cO::cP::cQ::cR::cS::cT::cU::cV::cW::cX::cY::cZ::dA::dB::dC::dD::dE::dF::dG::dH::dI::dJ::dK::dL::dM::[]) H Q = (
  bd (binV .add aH (.int .i64 1)) fun p0=>
  Q .n (x0::x1::x2::x3::x4::x5::x6::x7::x8::x9::aA::aB::aC::aD::aE::aF::aG::p0::aI::aJ::aK::aL::aM::aN::aO::aP::aQ::aR::aS::aT::aU::aV::aW::aX::aY::aZ::cA::cB::cC::cD::cE::cF::cG::cH::cI::cJ::cK::cL::cM::cN::cO::cP::cQ::cR::cS::cT::cU::cV::cW::cX::cY::cZ::dA::dB::dC::dD::dE::dF::dG::dH::dI::dJ::dK::p0::dM::[]) H) := by kernel_rfl
theorem wr46_5 : wp G r46_5 (x0::x1::x2::x3::x4::x5::x6::x7::x8::x9::aA::aB::aC::aD::aE::aF::aG::aH::aI::aJ::aK::aL::aM::aN::aO::aP::aQ::aR::aS::aT::aU::aV::aW::aX::aY::aZ::cA::cB::cC::cD::cE::cF::cG::cH::cI::cJ::cK::cL::cM::cN::cO::cP::cQ::cR::cS::cT::cU::cV::cW::cX::cY::cZ::dA::dB::dC::dD::dE::dF::dG::dH::dI::dJ::dK::dL::dM::[]) H Q = (
  Q .r (x0::x1::x3::x3::x4::x5::x6::x7::x8::x9::aA::aB::aC::aD::aE::aF::aG::aH::aI::aJ::aK::aL::aM::aN::aO::aP::aQ::aR::aS::aT::aU::aV::aW::aX::aY::aZ::cA::cB::cC::cD::cE::cF::cG::cH::cI::cJ::cK::cL::cM::cN::cO::cP::cQ::cR::cS::cT::cU::cV::cW::cX::cY::cZ::dA::dB::dC::dD::dE::dF::dG::dH::dI::dJ::dK::dL::x3::[]) H) := by kernel_rfl
theorem w47 : runW G i47 [x0,x1] H k = (
  (true || G.pur 65) = true ∧ Cl G 65 [x0,x1] H fun p0 p1=>
  bd (binV .eql p0 (.int .i64 (-1))) fun p2=>
  ifB p2
   (k x0 p1)
   (bd (binV .add p0 (.int .i64 1)) fun p3=>
   Lp G b47_0 [x0,x1,undefV,undefV,.nils,p0,p3,undefV,x0,x1,p0,p0,p2,undefV,p0,p3,undefV,undefV,undefV,undefV,undefV,undefV,undefV,undefV,undefV,undefV,undefV,undefV,undefV,undefV,undefV,undefV,undefV,undefV,undefV,undefV,undefV,undefV,undefV,undefV,undefV,undefV] p1 (blockQ 0 (seqQ G r47_2 (retQ i47 k))))) := by kernel_rfl
@[simp] theorem ret47 : retQ i47 k .r (x0::x1::x2::x3::x4::z) H = k x4 H := nrfl
theorem wb47_0 : wp G b47_0 (x0::x1::x2::x3::x4::x5::x6::x7::x8::x9::aA::aB::aC::aD::aE::aF::aG::aH::aI::aJ::aK::aL::aM::aN::aO::aP::aQ::aR::aS::aT::aU::aV::aW::aX::aY::aZ::z) H Q = (
  bd (lensV x0) fun p0=>
  bd (binV .lss x6 p0) fun p1=>
  ifB p1
   (bd (iadrV 1 x0 x6) fun p2=>
   bd (ldV H p2 1 false) fun p3=>
   bd (callV x1) fun c => (true || G.pur c.1) = true ∧ Cl G c.1 ([p3] ++ c.2) H fun p4 p5=>
   bd (unV .not p4) fun p6=>
   ifB p6
    (bd (iadrV 1 x0 x5) fun p7=>
    true = true ∧ bd (stV p5 1 p7 p3) fun p8=>
    bd (binV .add x5 (.int .i64 1)) fun p9=>
    wp G r47_1 (x0::x1::x2::x3::x4::p9::x6::p3::x8::x9::aA::aB::aC::aD::aE::aF::x6::x0::p0::p1::aK::aL::x0::x6::p2::p3::x1::p3::p4::p6::x0::x5::p3::p7::x5::p9::z) p8 Q)
    (wp G r47_1 (x0::x1::x2::x3::x4::x5::x6::p3::x8::x9::aA::aB::aC::aD::aE::aF::x6::x0::p0::p1::aK::aL::x0::x6::p2::p3::x1::p3::p4::p6::aU::aV::aW::aX::aY::aZ::z) p5 Q))
   (Q (.e 0) (x0::x1::x2::x3::x4::x5::x6::x7::x8::x9::aA::aB::aC::aD::aE::aF::x6::x0::p0::p1::aK::aL::aM::aN::aO::aP::aQ::aR::aS::aT::aU::aV::aW::aX::aY::aZ::z) H)) := by kernel_rfl
def Sb47_0 (I : Nat → V → V → V → V → Heap → Prop) : Nat → List V → Heap → Prop := fun i ts H => ts.length = 42 ∧ I i (ts.getD 0 undefV) (ts.getD 1 undefV) (ts.getD 5 undefV) (ts.getD 6 undefV) H
@[simp] theorem Sb47_0_eq {I : Nat → V → V → V → V → Heap → Prop} {i : Nat} : Sb47_0 I i [x0,x1,x2,x3,x4,x5,x6,x7,x8,x9,aA,aB,aC,aD,aE,aF,aG,aH,aI,aJ,aK,aL,aM,aN,aO,aP,aQ,aR,aS,aT,aU,aV,aW,aX,aY,aZ,cA,cB,cC,cD,cE,cF] H = I i x0 x1 x5 x6 H := propext ⟨fun h => h.2,fun h => ⟨rfl,h⟩⟩
theorem ub47_0 (M : Nat) (I : Nat → V → V → V → V → Heap → Prop) (step : ∀ i,i ≤ M → ∀ (x0 x1 x5 x6 : V) (H : Heap),I i x0 x1 x5 x6 H → ∀ (x2 x3 x4 x7 x8 x9 aA aB aC aD aE aF aG aH aI aJ aK aL aM aN aO aP aQ aR aS aT aU aV aW aX aY aZ cA cB cC cD cE cF : V),wp G b47_0 [x0,x1,x2,x3,x4,x5,x6,x7,x8,x9,aA,aB,aC,aD,aE,aF,aG,aH,aI,aJ,aK,aL,aM,aN,aO,aP,aQ,aR,aS,aT,aU,aV,aW,aX,aY,aZ,cA,cB,cC,cD,cE,cF] H (upQ M (Sb47_0 I) i Q)) (i : Nat) (hi : i ≤ M) (h : I i x0 x1 x5 x6 H) : Lp G b47_0 [x0,x1,x2,x3,x4,x5,x6,x7,x8,x9,aA,aB,aC,aD,aE,aF,aG,aH,aI,aJ,aK,aL,aM,aN,aO,aP,aQ,aR,aS,aT,aU,aV,aW,aX,aY,aZ,cA,cB,cC,cD,cE,cF] H Q :=
  Lp.up (S := Sb47_0 I) (fun i t H hi hS => (congrArg (fun t => wp G b47_0 t H (upQ M (Sb47_0 I) i Q)) (tabF_eq hS.1)).mpr (step i hi _ _ _ _ H hS.2 ..)) _ i _ H rfl hi ⟨rfl,h⟩
theorem wr47_1 : wp G r47_1 (x0::x1::x2::x3::x4::x5::x6::x7::x8::x9::aA::aB::aC::aD::aE::aF::aG::aH::aI::aJ::aK::aL::z) H Q = (
  bd (binV .add x6 (.int .i64 1)) fun p0=>
  Q .n (x0::x1::x2::x3::x4::x5::p0::x7::x8::x9::aA::aB::aC::aD::aE::aF::aG::aH::aI::aJ::x6::p0::z) H) := by kernel_rfl
theorem wr47_2 : wp G r47_2 [x0,x1,x2,x3,x4,x5,x6,x7,x8,x9,aA,aB,aC,aD,aE,aF,aG,aH,aI,aJ,aK,aL,aM,aN,aO,aP,aQ,aR,aS,aT,aU,aV,aW,aX,aY,aZ,cA,cB,cC,cD,cE,cF] H Q = (
  bd (slcV 1 x0 (some x5) none none) fun p0=>
  true = true ∧ bd2 (clrV 1 [(.int .i64 0)] H p0) fun u3 p1=>
  bd (slcV 1 x0 none (some x5) none) fun p2=>
  Q .r [x0,x1,x2,x3,p2,x5,x6,x7,x8,x9,aA,aB,aC,aD,aE,aF,aG,aH,aI,aJ,aK,aL,aM,aN,aO,aP,aQ,aR,aS,aT,aU,aV,aW,aX,aY,aZ,x0,x5,p0,x0,x5,p2] p1) := by kernel_rfl
theorem w48 : runW G i48 [x0] H k = (
  bd (eqnV .slice false x0 .nils) fun p0=>
  ifB p0
   (k .nils H)
   (bd2 (bslV 1 0 [(.int .i64 0)] [] H) fun p1 p2=>
   bd2 (appV 1 8 true p2 p1 x0) fun p3 p4=>
   k p3 p4)) := by kernel_rfl
theorem w52 : runW G i52 [x0] H k = (
  bd (eqnV .slice false x0 .nils) fun p0=>
  ifB p0
   (k .nils H)
   (bd2 (bslV 1 0 [(.str [])] [] H) fun p1 p2=>
   bd2 (appV 1 16 true p2 p1 x0) fun p3 p4=>
   k p3 p4)) := by kernel_rfl
theorem w53 : runW G i53 [x0] H k = (
  bd (bxrV x0) fun p0=>
  newM H fun p1 p2=>
  bd (fadrV 1 p0) fun p3=>
  bd (ldV p2 p3 1 false) fun p4=>
  bd (lensV p4) fun p5=>
  Lp G b53_0 [x0,p0,.nilm,p1,undefV,undefV,undefV,undefV,p1,p3,p4,p5,(.int .i64 0),undefV,undefV,undefV,undefV,undefV,undefV,undefV,undefV,undefV,undefV,undefV,undefV,undefV,undefV,undefV,undefV,undefV,undefV,undefV,undefV,undefV,undefV,undefV,undefV,undefV,undefV,undefV,undefV] p2 (blockQ 0 (seqQ G r53_3 (retQ i53 k)))) := by kernel_rfl
@[simp] theorem ret53 : retQ i53 k .r (x0::x1::x2::z) H = k x2 H := nrfl
theorem wb53_0 : wp G b53_0 (x0::x1::x2::x3::x4::x5::x6::x7::x8::x9::aA::aB::aC::aD::aE::aF::aG::aH::aI::aJ::aK::aL::aM::aN::aO::aP::aQ::z) H Q = (
  bd (binV .lss aC aB) fun p0=>
  ifB p0
   (bd (iadrV 2 aA aC) fun p1=>
   bd (ldV H p1 2 true) fun p2=>
   newB H (.cells [(.str []),.nils]) fun p3 p4=>
   true = true ∧ bd (stV p4 2 p3 p2) fun p5=>
   bd (lkV p5 .s .nils false x3 (.str [])) fun p6=>
   bd2 (bslV 1 1 [(.int .i64 0)] [(0,1,aC)] p5) fun p7 p8=>
   bd2 (appV 1 8 true p8 p6 p7) fun p9 pA=>
   true = true ∧ bd (mupV pA .s x3 (.str []) p9) fun pB=>
   bd (fadrV 1 p3) fun pC=>
   bd (ldV pB pC 1 false) fun pD=>
   bd (lensV pD) fun pE=>
   Lp G b53_1 (x0::x1::x2::x3::aC::p3::x6::x7::x8::x9::aA::aB::aC::p0::aC::p1::p2::x3::x3::p6::aC::p7::p9::pC::pD::pE::(.int .i64 0)::z) pB (blockQ 2 (blockQ 1 (seqQ G r53_2 Q))))
   (Q (.e 0) (x0::x1::x2::x3::x4::x5::x6::x7::x8::x9::aA::aB::aC::p0::aE::aF::aG::aH::aI::aJ::aK::aL::aM::aN::aO::aP::aQ::z) H)) := by kernel_rfl
def Sb53_0 (I : Nat → V → V → V → V → Heap → Prop) : Nat → List V → Heap → Prop := fun i ts H => ts.length = 41 ∧ I i (ts.getD 3 undefV) (ts.getD 10 undefV) (ts.getD 11 undefV) (ts.getD 12 undefV) H
@[simp] theorem Sb53_0_eq {I : Nat → V → V → V → V → Heap → Prop} {i : Nat} : Sb53_0 I i [x0,x1,x2,x3,x4,x5,x6,x7,x8,x9,aA,aB,aC,aD,aE,aF,aG,aH,aI,aJ,aK,aL,aM,aN,aO,aP,aQ,aR,aS,aT,aU,aV,aW,aX,aY,aZ,cA,cB,cC,cD,cE] H = I i x3 aA aB aC H := propext ⟨fun h => h.2,fun h => ⟨rfl,h⟩⟩
theorem ub53_0 (M : Nat) (I : Nat → V → V → V → V → Heap → Prop) (step : ∀ i,i ≤ M → ∀ (x3 aA aB aC : V) (H : Heap),I i x3 aA aB aC H → ∀ (x0 x1 x2 x4 x5 x6 x7 x8 x9 aD aE aF aG aH aI aJ aK aL aM aN aO aP aQ aR aS aT aU aV aW aX aY aZ cA cB cC cD cE : V),wp G b53_0 [x0,x1,x2,x3,x4,x5,x6,x7,x8,x9,aA,aB,aC,aD,aE,aF,aG,aH,aI,aJ,aK,aL,aM,aN,aO,aP,aQ,aR,aS,aT,aU,aV,aW,aX,aY,aZ,cA,cB,cC,cD,cE] H (upQ M (Sb53_0 I) i Q)) (i : Nat) (hi : i ≤ M) (h : I i x3 aA aB aC H) : Lp G b53_0 [x0,x1,x2,x3,x4,x5,x6,x7,x8,x9,aA,aB,aC,aD,aE,aF,aG,aH,aI,aJ,aK,aL,aM,aN,aO,aP,aQ,aR,aS,aT,aU,aV,aW,aX,aY,aZ,cA,cB,cC,cD,cE] H Q :=
  Lp.up (S := Sb53_0 I) (fun i t H hi hS => (congrArg (fun t => wp G b53_0 t H (upQ M (Sb53_0 I) i Q)) (tabF_eq hS.1)).mpr (step i hi _ _ _ _ H hS.2 ..)) _ i _ H rfl hi ⟨rfl,h⟩
theorem wb53_1 : wp G b53_1 (x0::x1::x2::x3::x4::x5::x6::x7::x8::x9::aA::aB::aC::aD::aE::aF::aG::aH::aI::aJ::aK::aL::aM::aN::aO::aP::aQ::aR::aS::aT::aU::aV::aW::aX::aY::aZ::cA::cB::cC::z) H Q = (
  bd (binV .lss aQ aP) fun p0=>
  ifB p0
   (bd (iadrV 1 aO aQ) fun p1=>
   bd (ldV H p1 1 false) fun p2=>
   bd (lkV H .s .nils false x3 p2) fun p3=>
   bd2 (bslV 1 1 [(.int .i64 0)] [(0,1,x4)] H) fun p4 p5=>
   bd2 (appV 1 8 true p5 p3 p4) fun p6 p7=>
   true = true ∧ bd (mupV p7 .s x3 p2 p6) fun p8=>
   bd (binV .add aQ (.int .i64 1)) fun p9=>
   Q .n (x0::x1::x2::x3::x4::x5::x6::p2::x8::x9::aA::aB::aC::aD::aE::aF::aG::aH::aI::aJ::aK::aL::aM::aN::aO::aP::p9::p0::p1::p2::x3::p2::x3::p2::p3::x4::p4::p6::p9::z) p8)
   (Q (.e 2) (x0::x1::x2::x3::x4::x5::x6::x7::x8::x9::aA::aB::aC::aD::aE::aF::aG::aH::aI::aJ::aK::aL::aM::aN::aO::aP::aQ::p0::aS::aT::aU::aV::aW::aX::aY::aZ::cA::cB::cC::z) H)) := by kernel_rfl
def Sb53_1 (I : Nat → V → V → V → V → V → V → V → V → Heap → Prop) : Nat → List V → Heap → Prop := fun i ts H => ts.length = 41 ∧ I i (ts.getD 3 undefV) (ts.getD 4 undefV) (ts.getD 10 undefV) (ts.getD 11 undefV) (ts.getD 12 undefV) (ts.getD 24 undefV) (ts.getD 25 undefV) (ts.getD 26 undefV) H
@[simp] theorem Sb53_1_eq {I : Nat → V → V → V → V → V → V → V → V → Heap → Prop} {i : Nat} : Sb53_1 I i [x0,x1,x2,x3,x4,x5,x6,x7,x8,x9,aA,aB,aC,aD,aE,aF,aG,aH,aI,aJ,aK,aL,aM,aN,aO,aP,aQ,aR,aS,aT,aU,aV,aW,aX,aY,aZ,cA,cB,cC,cD,cE] H = I i x3 x4 aA aB aC aO aP aQ H := propext ⟨fun h => h.2,fun h => ⟨rfl,h⟩⟩
theorem ub53_1 (M : Nat) (I : Nat → V → V → V → V → V → V → V → V → Heap → Prop) (step : ∀ i,i ≤ M → ∀ (x3 x4 aA aB aC aO aP aQ : V) (H : Heap),I i x3 x4 aA aB aC aO aP aQ H → ∀ (x0 x1 x2 x5 x6 x7 x8 x9 aD aE aF aG aH aI aJ aK aL aM aN aR aS aT aU aV aW aX aY aZ cA cB cC cD cE : V),wp G b53_1 [x0,x1,x2,x3,x4,x5,x6,x7,x8,x9,aA,aB,aC,aD,aE,aF,aG,aH,aI,aJ,aK,aL,aM,aN,aO,aP,aQ,aR,aS,aT,aU,aV,aW,aX,aY,aZ,cA,cB,cC,cD,cE] H (upQ M (Sb53_1 I) i Q)) (i : Nat) (hi : i ≤ M) (h : I i x3 x4 aA aB aC aO aP aQ H) : Lp G b53_1 [x0,x1,x2,x3,x4,x5,x6,x7,x8,x9,aA,aB,aC,aD,aE,aF,aG,aH,aI,aJ,aK,aL,aM,aN,aO,aP,aQ,aR,aS,aT,aU,aV,aW,aX,aY,aZ,cA,cB,cC,cD,cE] H Q :=
  Lp.up (S := Sb53_1 I) (fun i t H hi hS => (congrArg (fun t => wp G b53_1 t H (upQ M (Sb53_1 I) i Q)) (tabF_eq hS.1)).mpr (step i hi _ _ _ _ _ _ _ _ H hS.2 ..)) _ i _ H rfl hi ⟨rfl,h⟩
theorem wr53_2 : wp G r53_2 [x0,x1,x2,x3,x4,x5,x6,x7,x8,x9,aA,aB,aC,aD,aE,aF,aG,aH,aI,aJ,aK,aL,aM,aN,aO,aP,aQ,aR,aS,aT,aU,aV,aW,aX,aY,aZ,cA,cB,cC,cD,cE] H Q = (
  bd (binV .add aC (.int .i64 1)) fun p0=>
  Q .n [x0,x1,x2,x3,x4,x5,x6,x7,x8,x9,aA,aB,p0,aD,aE,aF,aG,aH,aI,aJ,aK,aL,aM,aN,aO,aP,aQ,aR,aS,aT,aU,aV,aW,aX,aY,aZ,cA,cB,cC,p0,cE] H) := by kernel_rfl
theorem wr53_3 : wp G r53_3 [x0,x1,x2,x3,x4,x5,x6,x7,x8,x9,aA,aB,aC,aD,aE,aF,aG,aH,aI,aJ,aK,aL,aM,aN,aO,aP,aQ,aR,aS,aT,aU,aV,aW,aX,aY,aZ,cA,cB,cC,cD,cE] H Q = (
  Q .r [x0,x1,x3,x3,x4,x5,x6,x7,x8,x9,aA,aB,aC,aD,aE,aF,aG,aH,aI,aJ,aK,aL,aM,aN,aO,aP,aQ,aR,aS,aT,aU,aV,aW,aX,aY,aZ,cA,cB,cC,cD,x3] H) := by kernel_rfl
theorem w56 : runW G i56 [x0] H k = (
  bd (bxrV x0) fun p0=>
  bd (fadrV 0 p0) fun p1=>
  bd (ldV H p1 1 false) fun p2=>
  bd (lensV p2) fun p3=>
  bd2 (mksV 1 1 [(.bool false)] H p3 p3) fun p4 p5=>
  newB p5 (.cells [.nils]) fun p6 p7=>
  true = true ∧ bd (stV p7 1 p6 p4) fun p8=>
  Lp G b56_0 [x0,p0,.nils,p6,.nils,undefV,p1,p2,p3,p4,undefV,undefV,undefV,undefV,undefV,undefV,undefV,undefV,undefV,undefV,undefV,undefV,undefV,undefV,undefV,undefV,undefV,undefV,undefV,undefV,undefV,undefV,undefV,undefV,undefV,undefV,undefV,undefV,undefV,undefV,undefV,undefV,undefV,undefV] p8 (blockQ 0 (retQ i56 k))) := by kernel_rfl
@[simp] theorem ret56 : retQ i56 k .r (x0::x1::x2::z) H = k x2 H := nrfl
theorem wb56_0 : wp G b56_0 (x0::x1::x2::x3::x4::x5::z) H Q = (
  Lp G b56_1 (x0::x1::x2::x3::x4::(.int .i64 0)::z) H (blockQ 2 (seqQ G r56_2 (blockQ 1 Q)))) := by kernel_rfl
def Sb56_0 (I : Nat → V → V → V → Heap → Prop) : Nat → List V → Heap → Prop := fun i ts H => ts.length = 44 ∧ I i (ts.getD 1 undefV) (ts.getD 3 undefV) (ts.getD 4 undefV) H
@[simp] theorem Sb56_0_eq {I : Nat → V → V → V → Heap → Prop} {i : Nat} : Sb56_0 I i [x0,x1,x2,x3,x4,x5,x6,x7,x8,x9,aA,aB,aC,aD,aE,aF,aG,aH,aI,aJ,aK,aL,aM,aN,aO,aP,aQ,aR,aS,aT,aU,aV,aW,aX,aY,aZ,cA,cB,cC,cD,cE,cF,cG,cH] H = I i x1 x3 x4 H := propext ⟨fun h => h.2,fun h => ⟨rfl,h⟩⟩
theorem ub56_0 (M : Nat) (I : Nat → V → V → V → Heap → Prop) (step : ∀ i,i ≤ M → ∀ (x1 x3 x4 : V) (H : Heap),I i x1 x3 x4 H → ∀ (x0 x2 x5 x6 x7 x8 x9 aA aB aC aD aE aF aG aH aI aJ aK aL aM aN aO aP aQ aR aS aT aU aV aW aX aY aZ cA cB cC cD cE cF cG cH : V),wp G b56_0 [x0,x1,x2,x3,x4,x5,x6,x7,x8,x9,aA,aB,aC,aD,aE,aF,aG,aH,aI,aJ,aK,aL,aM,aN,aO,aP,aQ,aR,aS,aT,aU,aV,aW,aX,aY,aZ,cA,cB,cC,cD,cE,cF,cG,cH] H (upQ M (Sb56_0 I) i Q)) (i : Nat) (hi : i ≤ M) (h : I i x1 x3 x4 H) : Lp G b56_0 [x0,x1,x2,x3,x4,x5,x6,x7,x8,x9,aA,aB,aC,aD,aE,aF,aG,aH,aI,aJ,aK,aL,aM,aN,aO,aP,aQ,aR,aS,aT,aU,aV,aW,aX,aY,aZ,cA,cB,cC,cD,cE,cF,cG,cH] H Q :=
  Lp.up (S := Sb56_0 I) (fun i t H hi hS => (congrArg (fun t => wp G b56_0 t H (upQ M (Sb56_0 I) i Q)) (tabF_eq hS.1)).mpr (step i hi _ _ _ H hS.2 ..)) _ i _ H rfl hi ⟨rfl,h⟩
theorem wb56_1 : wp G b56_1 (x0::x1::x2::x3::x4::x5::x6::x7::x8::x9::aA::aB::aC::aD::aE::aF::aG::aH::aI::aJ::aK::aL::aM::aN::aO::aP::aQ::aR::aS::aT::aU::aV::z) H Q = (
  bd (ldV H x3 1 false) fun p0=>
  bd (lensV p0) fun p1=>
  bd (binV .lss x5 p1) fun p2=>
  wpg (gdV p2 true) H (fun k => bd (ldV H x3 1 false) fun p3 => k p3 H) fun p4 p5=>
  wpg (gdV p2 true) p5 (fun k => k x5 p5) fun p6 p7=>
  wpg (gdV p2 true) p7 (fun k => bd (iadrV 1 p4 p6) fun p8 => k p8 p7) fun p9 pA=>
  wpg (gdV p2 true) pA (fun k => bd (ldV pA p9 1 false) fun pB => k pB pA) fun pC pD=>
  wpg (gdV p2 true) pD (fun k => k pC pD) fun pE pF=>
  wpg (gdV pE false) pF (fun k => bd (fadrV 0 x1) fun pG => k pG pF) fun pH pI=>
  wpg (gdV pE false) pI (fun k => bd (ldV pI pH 1 false) fun pJ => k pJ pI) fun pK pL=>
  wpg (gdV pE false) pL (fun k => k x5 pL) fun pM pN=>
  wpg (gdV pE false) pN (fun k => bd (iadrV 4 pK pM) fun pO => k pO pN) fun pP pQ=>
  wpg (gdV pE false) pQ (fun k => bd (fadrV 3 pP) fun pR => k pR pQ) fun pS pT=>
  wpg (gdV pE false) pT (fun k => bd (ldV pT pS 1 false) fun pU => k pU pT) fun pV pW=>
  wpg (gdV pE false) pW (fun k => k (.fn 66 [x3]) pW) fun pX pY=>
  wpg (gdV pE false) pY (fun k => (true || G.pur 50) = true ∧ Cl G 50 [pV,pX] pY fun pZ pa => k pZ pa) fun pb pc=>
  wpg (gdV p2 true) pc (fun k => bd (pickV pE (.bool true) pb) fun pd => k pd pc) fun pe pf=>
  bd (pickV p2 pe (.bool false)) fun pg=>
  ifB pg
   (bd (binV .add x5 (.int .i64 1)) fun ph=>
   Q .n (x0::x1::x2::x3::x4::ph::x6::x7::x8::x9::x5::p0::p1::p2::p2::p4::p6::p9::pC::pE::pH::pK::pM::pP::pS::pV::pX::pb::pe::pg::x5::ph::z) pf)
   (Q (.e 2) (x0::x1::x2::x3::x4::x5::x6::x7::x8::x9::x5::p0::p1::p2::p2::p4::p6::p9::pC::pE::pH::pK::pM::pP::pS::pV::pX::pb::pe::pg::aU::aV::z) pf)) := by kernel_rfl
def Sb56_1 (I : Nat → V → V → V → V → Heap → Prop) : Nat → List V → Heap → Prop := fun i ts H => ts.length = 44 ∧ I i (ts.getD 1 undefV) (ts.getD 3 undefV) (ts.getD 4 undefV) (ts.getD 5 undefV) H
@[simp] theorem Sb56_1_eq {I : Nat → V → V → V → V → Heap → Prop} {i : Nat} : Sb56_1 I i [x0,x1,x2,x3,x4,x5,x6,x7,x8,x9,aA,aB,aC,aD,aE,aF,aG,aH,aI,aJ,aK,aL,aM,aN,aO,aP,aQ,aR,aS,aT,aU,aV,aW,aX,aY,aZ,cA,cB,cC,cD,cE,cF,cG,cH] H = I i x1 x3 x4 x5 H := propext ⟨fun h => h.2,fun h => ⟨rfl,h⟩⟩
theorem ub56_1 (M : Nat) (I : Nat → V → V → V → V → Heap → Prop) (step : ∀ i,i ≤ M → ∀ (x1 x3 x4 x5 : V) (H : Heap),I i x1 x3 x4 x5 H → ∀ (x0 x2 x6 x7 x8 x9 aA aB aC aD aE aF aG aH aI aJ aK aL aM aN aO aP aQ aR aS aT aU aV aW aX aY aZ cA cB cC cD cE cF cG cH : V),wp G b56_1 [x0,x1,x2,x3,x4,x5,x6,x7,x8,x9,aA,aB,aC,aD,aE,aF,aG,aH,aI,aJ,aK,aL,aM,aN,aO,aP,aQ,aR,aS,aT,aU,aV,aW,aX,aY,aZ,cA,cB,cC,cD,cE,cF,cG,cH] H (upQ M (Sb56_1 I) i Q)) (i : Nat) (hi : i ≤ M) (h : I i x1 x3 x4 x5 H) : Lp G b56_1 [x0,x1,x2,x3,x4,x5,x6,x7,x8,x9,aA,aB,aC,aD,aE,aF,aG,aH,aI,aJ,aK,aL,aM,aN,aO,aP,aQ,aR,aS,aT,aU,aV,aW,aX,aY,aZ,cA,cB,cC,cD,cE,cF,cG,cH] H Q :=
  Lp.up (S := Sb56_1 I) (fun i t H hi hS => (congrArg (fun t => wp G b56_1 t H (upQ M (Sb56_1 I) i Q)) (tabF_eq hS.1)).mpr (step i hi _ _ _ _ H hS.2 ..)) _ i _ H rfl hi ⟨rfl,h⟩
theorem wr56_2 : wp G r56_2 [x0,x1,x2,x3,x4,x5,x6,x7,x8,x9,aA,aB,aC,aD,aE,aF,aG,aH,aI,aJ,aK,aL,aM,aN,aO,aP,aQ,aR,aS,aT,aU,aV,aW,aX,aY,aZ,cA,cB,cC,cD,cE,cF,cG,cH] H Q = (
  bd (ldV H x3 1 false) fun p0=>
  bd (lensV p0) fun p1=>
  bd (binV .eql x5 p1) fun p2=>
  ifB p2
   (Q .r [x0,x1,x4,x3,x4,x5,x6,x7,x8,x9,aA,aB,aC,aD,aE,aF,aG,aH,aI,aJ,aK,aL,aM,aN,aO,aP,aQ,aR,aS,aT,aU,aV,x5,p0,p1,p2,x4,cB,cC,cD,cE,cF,cG,cH] H)
   (bd (ldV H x3 1 false) fun p3=>
   bd (iadrV 1 p3 x5) fun p4=>
   true = true ∧ bd (stV H 1 p4 (.bool true)) fun p5=>
   bd2 (bslV 1 1 [(.int .i64 0)] [(0,1,x5)] p5) fun p6 p7=>
   bd2 (appV 1 8 true p7 x4 p6) fun p8 p9=>
   Q .n [x0,x1,x2,x3,p8,x5,x6,x7,x8,x9,aA,aB,aC,aD,aE,aF,aG,aH,aI,aJ,aK,aL,aM,aN,aO,aP,aQ,aR,aS,aT,aU,aV,x5,p0,p1,p2,cA,p3,x5,p4,x4,x5,p6,p8] p9)) := by kernel_rfl
theorem w57 : runW G i57 [x0,x1] H k = (
  bd (bxrV x0) fun p0=>
  bd (fadrV 0 p0) fun p1=>
  bd (ldV H p1 1 false) fun p2=>
  bd (iadrV 4 p2 x1) fun p3=>
  bd (ldV H p3 4 true) fun p4=>
  newB H (.cells [(.str []),(.int .i64 0),(.str []),.nils]) fun p5 p6=>
  true = true ∧ bd (stV p6 4 p5 p4) fun p7=>
  bd (fadrV 0 p5) fun p8=>
  bd (ldV p7 p8 1 false) fun p9=>
  (true || G.pur 67) = true ∧ Cl G 67 [p9] p7 fun pA pB=>
  bd (unV .not pA) fun pC=>
  ifB pC
   (k (.int .i64 11) pB)
   (bd (fadrV 0 p0) fun pD=>
   bd (ldV pB pD 1 false) fun pE=>
   bd (slcV 4 pE none (some x1) none) fun pF=>
   (true || G.pur 68) = true ∧ Cl G 68 [pF,(.fn 69 [p5])] pB fun pG pH=>
   ifB pG
    (k (.int .i64 9) pH)
    (bd (fadrV 1 p5) fun pI=>
    bd (ldV pH pI 1 false) fun pJ=>
    bd (binV .lss pJ (.int .i64 1)) fun pK=>
    wpg (gdV pK false) pH (fun k => bd (fadrV 1 p5) fun pL => k pL pH) fun pM pN=>
    wpg (gdV pK false) pN (fun k => bd (ldV pN pM 1 false) fun pO => k pO pN) fun pP pQ=>
    wpg (gdV pK false) pQ (fun k => bd (binV .gtr pP (.int .i64 1048576)) fun pR => k pR pQ) fun pS pT=>
    bd (pickV pK (.bool true) pS) fun pU=>
    ifB pU
     (k (.int .i64 2) pT)
     (bd (fadrV 2 p5) fun pV=>
     bd (ldV pT pV 1 false) fun pW=>
     bd (binV .neq pW (.str [])) fun pX=>
     wpg (gdV pX true) pT (fun k => bd (fadrV 2 p5) fun pY => k pY pT) fun pZ pa=>
     wpg (gdV pX true) pa (fun k => bd (ldV pa pZ 1 false) fun pb => k pb pa) fun pc pd=>
     wpg (gdV pX true) pd (fun k => (true || G.pur 67) = true ∧ Cl G 67 [pc] pd fun pe pf => k pe pf) fun pg ph=>
     wpg (gdV pX true) ph (fun k => bd (unV .not pg) fun pi => k pi ph) fun pj pk=>
     bd (pickV pX pj (.bool false)) fun pl=>
     ifB pl
      (k (.int .i64 11) pk)
      (bd (fadrV 3 p5) fun pm=>
      bd (ldV pk pm 1 false) fun pn=>
      bd (lensV pn) fun po=>
      Lp G b57_0 (x0::x1::p0::undefV::(.int .i64 0)::p5::undefV::undefV::p1::p2::x1::p3::p4::pC::p8::p9::pA::pC::pG::pD::pE::x1::pF::(.fn 69 [p5])::pG::pU::pI::pJ::pK::pK::pM::pP::pS::pU::pl::pV::pW::pX::pX::pZ::pc::pg::pj::pl::pm::pn::po::(.int .i64 0)::undefV::undefV::undefV::undefV::undefV::undefV::undefV::undefV::undefV::undefV::undefV::undefV::undefV::undefV::undefV::undefV::undefV::undefV::undefV::undefV::undefV::undefV::undefV::undefV::undefV::undefV::undefV::undefV::undefV::undefV::undefV::undefV::[]) pk (blockQ 1 (seqQ G r57_1 (retQ i57 k)))))))) := by kernel_rfl
@[simp] theorem ret57 : retQ i57 k .r (x0::x1::x2::x3::x4::z) H = k x4 H := nrfl
theorem wb57_0 : wp G b57_0 (x0::x1::x2::x3::x4::x5::x6::x7::x8::x9::aA::aB::aC::aD::aE::aF::aG::aH::aI::aJ::aK::aL::aM::aN::aO::aP::aQ::aR::aS::aT::aU::aV::aW::aX::aY::aZ::cA::cB::cC::cD::cE::cF::cG::cH::cI::cJ::cK::cL::cM::cN::cO::cP::cQ::cR::cS::cT::cU::cV::cW::cX::cY::cZ::dA::dB::dC::dD::dE::dF::dG::dH::dI::dJ::dK::dL::dM::dN::dO::dP::dQ::dR::[]) H Q = (
  bd (binV .lss cL cK) fun p0=>
  ifB p0
   (bd (iadrV 1 cJ cL) fun p1=>
   bd (ldV H p1 1 false) fun p2=>
   bd (binV .lss p2 (.int .i64 0)) fun p3=>
   wpg (gdV p3 false) H (fun k => k p2 H) fun p4 p5=>
   wpg (gdV p3 false) p5 (fun k => bd (fadrV 0 x2) fun p6 => k p6 p5) fun p7 p8=>
   wpg (gdV p3 false) p8 (fun k => bd (ldV p8 p7 1 false) fun p9 => k p9 p8) fun pA pB=>
   wpg (gdV p3 false) pB (fun k => bd (lensV pA) fun pC => k pC pB) fun pD pE=>
   wpg (gdV p3 false) pE (fun k => bd (binV .geq p4 pD) fun pF => k pF pE) fun pG pH=>
   bd (pickV p3 (.bool true) pG) fun pI=>
   ifB pI
    (Q .r (x0::x1::x2::x3::(.int .i64 2)::x5::cL::p2::x8::x9::aA::aB::aC::aD::aE::aF::aG::aH::aI::aJ::aK::aL::aM::aN::aO::aP::aQ::aR::aS::aT::aU::aV::aW::aX::aY::aZ::cA::cB::cC::cD::cE::cF::cG::cH::cI::cJ::cK::cL::p0::cL::p1::p2::pI::p2::p3::p3::p4::p7::pA::pD::pG::pI::dA::dB::dC::dD::dE::dF::dG::dH::dI::dJ::dK::dL::dM::dN::dO::dP::dQ::dR::[]) pH)
    (bd (binV .eql p2 x1) fun pJ=>
    ifB pJ
     (Q .r (x0::x1::x2::x3::(.int .i64 17)::x5::cL::p2::x8::x9::aA::aB::aC::aD::aE::aF::aG::aH::aI::aJ::aK::aL::aM::aN::aO::aP::aQ::aR::aS::aT::aU::aV::aW::aX::aY::aZ::cA::cB::cC::cD::cE::cF::cG::cH::cI::cJ::cK::cL::p0::cL::p1::p2::pI::p2::p3::p3::p4::p7::pA::pD::pG::pI::pJ::p2::x1::pJ::dE::dF::dG::dH::dI::dJ::dK::dL::dM::dN::dO::dP::dQ::dR::[]) pH)
     (bd (binV .gtr cL (.int .i64 0)) fun pK=>
     wpg (gdV pK true) pH (fun k => bd (fadrV 3 x5) fun pL => k pL pH) fun pM pN=>
     wpg (gdV pK true) pN (fun k => bd (ldV pN pM 1 false) fun pO => k pO pN) fun pP pQ=>
     wpg (gdV pK true) pQ (fun k => k cL pQ) fun pR pS=>
     wpg (gdV pK true) pS (fun k => bd (binV .sub pR (.int .i64 1)) fun pT => k pT pS) fun pU pV=>
     wpg (gdV pK true) pV (fun k => bd (iadrV 1 pP pU) fun pW => k pW pV) fun pX pY=>
     wpg (gdV pK true) pY (fun k => bd (ldV pY pX 1 false) fun pZ => k pZ pY) fun pa pb=>
     wpg (gdV pK true) pb (fun k => k p2 pb) fun pc pd=>
     wpg (gdV pK true) pd (fun k => bd (binV .geq pa pc) fun pe => k pe pd) fun pf pg=>
     bd (pickV pK pf (.bool false)) fun ph=>
     ifB ph
      (Q .r (x0::x1::x2::x3::(.int .i64 8)::x5::cL::p2::x8::x9::aA::aB::aC::aD::aE::aF::aG::aH::aI::aJ::aK::aL::aM::aN::aO::aP::aQ::aR::aS::aT::aU::aV::aW::aX::aY::aZ::cA::cB::cC::cD::cE::cF::cG::cH::cI::cJ::cK::cL::p0::cL::p1::p2::pI::p2::p3::p3::p4::p7::pA::pD::pG::pI::pJ::p2::x1::pJ::ph::cL::pK::pK::pM::pP::pR::pU::pX::pa::pc::pf::ph::dR::[]) pg)
      (bd (binV .add cL (.int .i64 1)) fun pi=>
      Q .n (x0::x1::x2::x3::x4::x5::cL::p2::x8::x9::aA::aB::aC::aD::aE::aF::aG::aH::aI::aJ::aK::aL::aM::aN::aO::aP::aQ::aR::aS::aT::aU::aV::aW::aX::aY::aZ::cA::cB::cC::cD::cE::cF::cG::cH::cI::cJ::cK::pi::p0::cL::p1::p2::pI::p2::p3::p3::p4::p7::pA::pD::pG::pI::pJ::p2::x1::pJ::ph::cL::pK::pK::pM::pP::pR::pU::pX::pa::pc::pf::ph::pi::[]) pg))))
   (Q (.e 1) (x0::x1::x2::x3::x4::x5::x6::x7::x8::x9::aA::aB::aC::aD::aE::aF::aG::aH::aI::aJ::aK::aL::aM::aN::aO::aP::aQ::aR::aS::aT::aU::aV::aW::aX::aY::aZ::cA::cB::cC::cD::cE::cF::cG::cH::cI::cJ::cK::cL::p0::cN::cO::cP::cQ::cR::cS::cT::cU::cV::cW::cX::cY::cZ::dA::dB::dC::dD::dE::dF::dG::dH::dI::dJ::dK::dL::dM::dN::dO::dP::dQ::dR::[]) H)) := by kernel_rfl
def Sb57_0 (I : Nat → V → V → V → V → V → V → Heap → Prop) : Nat → List V → Heap → Prop := fun i ts H => ts.length = 80 ∧ I i (ts.getD 1 undefV) (ts.getD 2 undefV) (ts.getD 5 undefV) (ts.getD 45 undefV) (ts.getD 46 undefV) (ts.getD 47 undefV) H
@[simp] theorem Sb57_0_eq {I : Nat → V → V → V → V → V → V → Heap → Prop} {i : Nat} : Sb57_0 I i (x0::x1::x2::x3::x4::x5::x6::x7::x8::x9::aA::aB::aC::aD::aE::aF::aG::aH::aI::aJ::aK::aL::aM::aN::aO::aP::aQ::aR::aS::aT::aU::aV::aW::aX::aY::aZ::cA::cB::cC::cD::cE::cF::cG::cH::cI::cJ::cK::cL::cM::cN::cO::cP::cQ::cR::cS::cT::cU::cV::cW::cX::cY::cZ::dA::dB::dC::dD::dE::dF::dG::dH::dI::dJ::dK::dL::dM::dN::dO::dP::dQ::dR::[]) H = I i x1 x2 x5 cJ cK cL H := propext ⟨fun h => h.2,fun h => ⟨rfl,h⟩⟩
def Lb57_0 (x1 x2 x5 cJ cK cL : V) (H : Heap) (Q : Cont) : Prop := ∀ (x0 x3 x4 x6 x7 x8 x9 aA aB aC aD aE aF aG aH aI aJ aK aL aM aN aO aP aQ aR aS aT aU aV aW aX aY aZ cA cB cC cD cE cF cG cH cI cM cN cO cP cQ cR cS cT cU cV cW cX cY cZ dA dB dC dD dE dF dG dH dI dJ dK dL dM dN dO dP dQ dR : V),Lp G b57_0 (x0::x1::x2::x3::x4::x5::x6::x7::x8::x9::aA::aB::aC::aD::aE::aF::aG::aH::aI::aJ::aK::aL::aM::aN::aO::aP::aQ::aR::aS::aT::aU::aV::aW::aX::aY::aZ::cA::cB::cC::cD::cE::cF::cG::cH::cI::cJ::cK::cL::cM::cN::cO::cP::cQ::cR::cS::cT::cU::cV::cW::cX::cY::cZ::dA::dB::dC::dD::dE::dF::dG::dH::dI::dJ::dK::dL::dM::dN::dO::dP::dQ::dR::[]) H Q
theorem ub57_0 (M : Nat) (I : Nat → V → V → V → V → V → V → Heap → Prop) (step : ∀ i,i ≤ M → ∀ (x1 x2 x5 cJ cK cL : V) (H : Heap),I i x1 x2 x5 cJ cK cL H → ∀ (x0 x3 x4 x6 x7 x8 x9 aA aB aC aD aE aF aG aH aI aJ aK aL aM aN aO aP aQ aR aS aT aU aV aW aX aY aZ cA cB cC cD cE cF cG cH cI cM cN cO cP cQ cR cS cT cU cV cW cX cY cZ dA dB dC dD dE dF dG dH dI dJ dK dL dM dN dO dP dQ dR : V),wp G b57_0 (x0::x1::x2::x3::x4::x5::x6::x7::x8::x9::aA::aB::aC::aD::aE::aF::aG::aH::aI::aJ::aK::aL::aM::aN::aO::aP::aQ::aR::aS::aT::aU::aV::aW::aX::aY::aZ::cA::cB::cC::cD::cE::cF::cG::cH::cI::cJ::cK::cL::cM::cN::cO::cP::cQ::cR::cS::cT::cU::cV::cW::cX::cY::cZ::dA::dB::dC::dD::dE::dF::dG::dH::dI::dJ::dK::dL::dM::dN::dO::dP::dQ::dR::[]) H (upQ M (Sb57_0 I) i Q)) (i : Nat) (hi : i ≤ M) (h : I i x1 x2 x5 cJ cK cL H) : Lp G b57_0 (x0::x1::x2::x3::x4::x5::x6::x7::x8::x9::aA::aB::aC::aD::aE::aF::aG::aH::aI::aJ::aK::aL::aM::aN::aO::aP::aQ::aR::aS::aT::aU::aV::aW::aX::aY::aZ::cA::cB::cC::cD::cE::cF::cG::cH::cI::cJ::cK::cL::cM::cN::cO::cP::cQ::cR::cS::cT::cU::cV::cW::cX::cY::cZ::dA::dB::dC::dD::dE::dF::dG::dH::dI::dJ::dK::dL::dM::dN::dO::dP::dQ::dR::[]) H Q :=
  Lp.up (S := Sb57_0 I) (fun i t H hi hS => (congrArg (fun t => wp G b57_0 t H (upQ M (Sb57_0 I) i Q)) (tabF_eq hS.1)).mpr (step i hi _ _ _ _ _ _ H hS.2 ..)) _ i _ H rfl hi ⟨rfl,h⟩
theorem wr57_1 : wp G r57_1 (x0::x1::x2::x3::x4::z) H Q = (
  Q .r (x0::x1::x2::x3::(.int .i64 0)::z) H) := by kernel_rfl
theorem w58 : runW G i58 [x0,x1] H k = (
  bd (bxrV x0) fun p0=>
  bd (fadrV 1 p0) fun p1=>
  bd (ldV H p1 1 false) fun p2=>
  bd (iadrV 2 p2 x1) fun p3=>
  bd (ldV H p3 2 true) fun p4=>
  newB H (.cells [(.str []),.nils]) fun p5 p6=>
  true = true ∧ bd (stV p6 2 p5 p4) fun p7=>
  bd (fadrV 0 p5) fun p8=>
  bd (ldV p7 p8 1 false) fun p9=>
  (true || G.pur 67) = true ∧ Cl G 67 [p9] p7 fun pA pB=>
  bd (unV .not pA) fun pC=>
  ifB pC
   (k (.int .i64 11) pB)
   (bd (fadrV 1 p0) fun pD=>
   bd (ldV pB pD 1 false) fun pE=>
   bd (slcV 2 pE none (some x1) none) fun pF=>
   (true || G.pur 70) = true ∧ Cl G 70 [pF,(.fn 71 [p5])] pB fun pG pH=>
   ifB pG
    (k (.int .i64 9) pH)
    (bd (fadrV 1 p5) fun pI=>
    bd (ldV pH pI 1 false) fun pJ=>
    bd (lensV pJ) fun pK=>
    bd (binV .gtr pK (.int .i64 16)) fun pL=>
    ifB pL
     (k (.int .i64 6) pH)
     (bd (fadrV 1 p5) fun pM=>
     bd (ldV pH pM 1 false) fun pN=>
     bd (lensV pN) fun pO=>
     Lp G b58_0 [x0,x1,p0,undefV,(.int .i64 0),p5,undefV,undefV,p1,p2,x1,p3,p4,pC,p8,p9,pA,pC,pG,pD,pE,x1,pF,(.fn 71 [p5]),pG,pL,pI,pJ,pK,pL,pM,pN,pO,(.int .i64 0),undefV,undefV,undefV,undefV,undefV,undefV,undefV,undefV,undefV,undefV,undefV,undefV,undefV,undefV,undefV,undefV,undefV,undefV,undefV,undefV] pH (blockQ 1 (seqQ G r58_1 (retQ i58 k))))))) := by kernel_rfl
@[simp] theorem ret58 : retQ i58 k .r (x0::x1::x2::x3::x4::z) H = k x4 H := nrfl
theorem wb58_0 : wp G b58_0 [x0,x1,x2,x3,x4,x5,x6,x7,x8,x9,aA,aB,aC,aD,aE,aF,aG,aH,aI,aJ,aK,aL,aM,aN,aO,aP,aQ,aR,aS,aT,aU,aV,aW,aX,aY,aZ,cA,cB,cC,cD,cE,cF,cG,cH,cI,cJ,cK,cL,cM,cN,cO,cP,cQ,cR] H Q = (
  bd (binV .lss aX aW) fun p0=>
  ifB p0
   (bd (iadrV 1 aV aX) fun p1=>
   bd (ldV H p1 1 false) fun p2=>
   (true || G.pur 67) = true ∧ Cl G 67 [p2] H fun p3 p4=>
   bd (unV .not p3) fun p5=>
   ifB p5
    (Q .r [x0,x1,x2,x3,(.int .i64 11),x5,aX,p2,x8,x9,aA,aB,aC,aD,aE,aF,aG,aH,aI,aJ,aK,aL,aM,aN,aO,aP,aQ,aR,aS,aT,aU,aV,aW,aX,p0,aX,p1,p2,p2,p3,p5,cF,cG,cH,cI,cJ,cK,cL,cM,cN,cO,cP,cQ,cR] p4)
    (bd (binV .gtr aX (.int .i64 0)) fun p6=>
    wpg (gdV p6 true) p4 (fun k => bd (fadrV 1 x5) fun p7 => k p7 p4) fun p8 p9=>
    wpg (gdV p6 true) p9 (fun k => bd (ldV p9 p8 1 false) fun pA => k pA p9) fun pB pC=>
    wpg (gdV p6 true) pC (fun k => k aX pC) fun pD pE=>
    wpg (gdV p6 true) pE (fun k => bd (binV .sub pD (.int .i64 1)) fun pF => k pF pE) fun pG pH=>
    wpg (gdV p6 true) pH (fun k => bd (iadrV 1 pB pG) fun pI => k pI pH) fun pJ pK=>
    wpg (gdV p6 true) pK (fun k => bd (ldV pK pJ 1 false) fun pL => k pL pK) fun pM pN=>
    wpg (gdV p6 true) pN (fun k => k p2 pN) fun pO pP=>
    wpg (gdV p6 true) pP (fun k => bd (binV .geq pM pO) fun pQ => k pQ pP) fun pR pS=>
    bd (pickV p6 pR (.bool false)) fun pT=>
    ifB pT
     (Q .r [x0,x1,x2,x3,(.int .i64 8),x5,aX,p2,x8,x9,aA,aB,aC,aD,aE,aF,aG,aH,aI,aJ,aK,aL,aM,aN,aO,aP,aQ,aR,aS,aT,aU,aV,aW,aX,p0,aX,p1,p2,p2,p3,p5,aX,p6,p6,p8,pB,pD,pG,pJ,pM,pO,pR,pT,cR] pS)
     (bd (binV .add aX (.int .i64 1)) fun pU=>
     Q .n [x0,x1,x2,x3,x4,x5,aX,p2,x8,x9,aA,aB,aC,aD,aE,aF,aG,aH,aI,aJ,aK,aL,aM,aN,aO,aP,aQ,aR,aS,aT,aU,aV,aW,pU,p0,aX,p1,p2,p2,p3,p5,aX,p6,p6,p8,pB,pD,pG,pJ,pM,pO,pR,pT,pU] pS)))
   (Q (.e 1) [x0,x1,x2,x3,x4,x5,x6,x7,x8,x9,aA,aB,aC,aD,aE,aF,aG,aH,aI,aJ,aK,aL,aM,aN,aO,aP,aQ,aR,aS,aT,aU,aV,aW,aX,p0,aZ,cA,cB,cC,cD,cE,cF,cG,cH,cI,cJ,cK,cL,cM,cN,cO,cP,cQ,cR] H)) := by kernel_rfl
def Sb58_0 (I : Nat → V → V → V → V → Heap → Prop) : Nat → List V → Heap → Prop := fun i ts H => ts.length = 54 ∧ I i (ts.getD 5 undefV) (ts.getD 31 undefV) (ts.getD 32 undefV) (ts.getD 33 undefV) H
@[simp] theorem Sb58_0_eq {I : Nat → V → V → V → V → Heap → Prop} {i : Nat} : Sb58_0 I i [x0,x1,x2,x3,x4,x5,x6,x7,x8,x9,aA,aB,aC,aD,aE,aF,aG,aH,aI,aJ,aK,aL,aM,aN,aO,aP,aQ,aR,aS,aT,aU,aV,aW,aX,aY,aZ,cA,cB,cC,cD,cE,cF,cG,cH,cI,cJ,cK,cL,cM,cN,cO,cP,cQ,cR] H = I i x5 aV aW aX H := propext ⟨fun h => h.2,fun h => ⟨rfl,h⟩⟩
def Lb58_0 (x5 aV aW aX : V) (H : Heap) (Q : Cont) : Prop := ∀ (x0 x1 x2 x3 x4 x6 x7 x8 x9 aA aB aC aD aE aF aG aH aI aJ aK aL aM aN aO aP aQ aR aS aT aU aY aZ cA cB cC cD cE cF cG cH cI cJ cK cL cM cN cO cP cQ cR : V),Lp G b58_0 [x0,x1,x2,x3,x4,x5,x6,x7,x8,x9,aA,aB,aC,aD,aE,aF,aG,aH,aI,aJ,aK,aL,aM,aN,aO,aP,aQ,aR,aS,aT,aU,aV,aW,aX,aY,aZ,cA,cB,cC,cD,cE,cF,cG,cH,cI,cJ,cK,cL,cM,cN,cO,cP,cQ,cR] H Q
theorem ub58_0 (M : Nat) (I : Nat → V → V → V → V → Heap → Prop) (step : ∀ i,i ≤ M → ∀ (x5 aV aW aX : V) (H : Heap),I i x5 aV aW aX H → ∀ (x0 x1 x2 x3 x4 x6 x7 x8 x9 aA aB aC aD aE aF aG aH aI aJ aK aL aM aN aO aP aQ aR aS aT aU aY aZ cA cB cC cD cE cF cG cH cI cJ cK cL cM cN cO cP cQ cR : V),wp G b58_0 [x0,x1,x2,x3,x4,x5,x6,x7,x8,x9,aA,aB,aC,aD,aE,aF,aG,aH,aI,aJ,aK,aL,aM,aN,aO,aP,aQ,aR,aS,aT,aU,aV,aW,aX,aY,aZ,cA,cB,cC,cD,cE,cF,cG,cH,cI,cJ,cK,cL,cM,cN,cO,cP,cQ,cR] H (upQ M (Sb58_0 I) i Q)) (i : Nat) (hi : i ≤ M) (h : I i x5 aV aW aX H) : Lp G b58_0 [x0,x1,x2,x3,x4,x5,x6,x7,x8,x9,aA,aB,aC,aD,aE,aF,aG,aH,aI,aJ,aK,aL,aM,aN,aO,aP,aQ,aR,aS,aT,aU,aV,aW,aX,aY,aZ,cA,cB,cC,cD,cE,cF,cG,cH,cI,cJ,cK,cL,cM,cN,cO,cP,cQ,cR] H Q :=
  Lp.up (S := Sb58_0 I) (fun i t H hi hS => (congrArg (fun t => wp G b58_0 t H (upQ M (Sb58_0 I) i Q)) (tabF_eq hS.1)).mpr (step i hi _ _ _ _ H hS.2 ..)) _ i _ H rfl hi ⟨rfl,h⟩
theorem wr58_1 : wp G r58_1 (x0::x1::x2::x3::x4::z) H Q = (
  Q .r (x0::x1::x2::x3::(.int .i64 0)::z) H) := by kernel_rfl
theorem w63 : runW G i63 [x0] H k = (
  bd (lensV x0) fun p0=>
  bd (binV .sub p0 (.int .i64 1)) fun p1=>
  Lp G b63_0 [x0,undefV,(.int .i64 0),p1,x0,p0,p1,undefV,undefV,undefV,undefV,undefV,undefV,undefV,undefV,undefV,undefV,undefV,undefV,undefV,undefV,undefV,undefV,undefV,undefV,undefV,undefV,undefV] H (blockQ 0 (retQ i63 k))) := by kernel_rfl
theorem wb63_0 : wp G b63_0 [x0,x1,x2,x3,x4,x5,x6,x7,x8,x9,aA,aB,aC,aD,aE,aF,aG,aH,aI,aJ,aK,aL,aM,aN,aO,aP,aQ,aR] H Q = (
  bd (binV .lss x2 x3) fun p0=>
  ifB p0
   (bd (iadrV 1 x0 x3) fun p1=>
   bd (ldV H p1 1 false) fun p2=>
   bd (iadrV 1 x0 x2) fun p3=>
   bd (ldV H p3 1 false) fun p4=>
   bd (iadrV 1 x0 x2) fun p5=>
   true = true ∧ bd (stV H 1 p5 p2) fun p6=>
   bd (iadrV 1 x0 x3) fun p7=>
   true = true ∧ bd (stV p6 1 p7 p4) fun p8=>
   bd (binV .add x2 (.int .i64 1)) fun p9=>
   bd (binV .sub x3 (.int .i64 1)) fun pA=>
   Q .n [x0,x1,p9,pA,x4,x5,x6,x2,x3,p0,x2,p9,x3,pA,x0,x2,x0,x3,x0,x3,p1,p2,x0,x2,p3,p4,p5,p7] p8)
   (Q (.e 0) [x0,x1,x2,x3,x4,x5,x6,x2,x3,p0,aA,aB,aC,aD,aE,aF,aG,aH,aI,aJ,aK,aL,aM,aN,aO,aP,aQ,aR] H)) := by kernel_rfl
def Sb63_0 (I : Nat → V → V → V → Heap → Prop) : Nat → List V → Heap → Prop := fun i ts H => ts.length = 28 ∧ I i (ts.getD 0 undefV) (ts.getD 2 undefV) (ts.getD 3 undefV) H
@[simp] theorem Sb63_0_eq {I : Nat → V → V → V → Heap → Prop} {i : Nat} : Sb63_0 I i [x0,x1,x2,x3,x4,x5,x6,x7,x8,x9,aA,aB,aC,aD,aE,aF,aG,aH,aI,aJ,aK,aL,aM,aN,aO,aP,aQ,aR] H = I i x0 x2 x3 H := propext ⟨fun h => h.2,fun h => ⟨rfl,h⟩⟩
theorem ub63_0 (M : Nat) (I : Nat → V → V → V → Heap → Prop) (step : ∀ i,i ≤ M → ∀ (x0 x2 x3 : V) (H : Heap),I i x0 x2 x3 H → ∀ (x1 x4 x5 x6 x7 x8 x9 aA aB aC aD aE aF aG aH aI aJ aK aL aM aN aO aP aQ aR : V),wp G b63_0 [x0,x1,x2,x3,x4,x5,x6,x7,x8,x9,aA,aB,aC,aD,aE,aF,aG,aH,aI,aJ,aK,aL,aM,aN,aO,aP,aQ,aR] H (upQ M (Sb63_0 I) i Q)) (i : Nat) (hi : i ≤ M) (h : I i x0 x2 x3 H) : Lp G b63_0 [x0,x1,x2,x3,x4,x5,x6,x7,x8,x9,aA,aB,aC,aD,aE,aF,aG,aH,aI,aJ,aK,aL,aM,aN,aO,aP,aQ,aR] H Q :=
  Lp.up (S := Sb63_0 I) (fun i t H hi hS => (congrArg (fun t => wp G b63_0 t H (upQ M (Sb63_0 I) i Q)) (tabF_eq hS.1)).mpr (step i hi _ _ _ H hS.2 ..)) _ i _ H rfl hi ⟨rfl,h⟩
theorem w68 : runW G i68 [x0,x1] H k = (
  (true || G.pur 79) = true ∧ Cl G 79 [x0,x1] H fun p0 p1=>
  bd (binV .geq p0 (.int .i64 0)) fun p2=>
  k p2 p1) := by kernel_rfl
theorem w69 : runW G i69 [x0,x1] H k = (
  bd (bxrV x0) fun p0=>
  bd (fadrV 0 p0) fun p1=>
  bd (ldV H p1 1 false) fun p2=>
  bd (fadrV 0 x1) fun p3=>
  bd (ldV H p3 1 false) fun p4=>
  bd (binV .eql p2 p4) fun p5=>
  k p5 H) := by kernel_rfl
theorem w70 : runW G i70 [x0,x1] H k = (
  (true || G.pur 80) = true ∧ Cl G 80 [x0,x1] H fun p0 p1=>
  bd (binV .geq p0 (.int .i64 0)) fun p2=>
  k p2 p1) := by kernel_rfl
theorem w71 : runW G i71 [x0,x1] H k = (
  bd (bxrV x0) fun p0=>
  bd (fadrV 0 p0) fun p1=>
  bd (ldV H p1 1 false) fun p2=>
  bd (fadrV 0 x1) fun p3=>
  bd (ldV H p3 1 false) fun p4=>
  bd (binV .eql p2 p4) fun p5=>
  k p5 H) := by kernel_rfl
theorem w79 : runW G i79 [x0,x1] H k = (
  bd (lensV x0) fun p0=>
  Lp G b79_0 [x0,x1,undefV,undefV,(.int .i64 0),undefV,x0,p0,(.int .i64 0),undefV,undefV,undefV,undefV,undefV,undefV,undefV,undefV,undefV,undefV] H (blockQ 0 (seqQ G r79_1 (retQ i79 k)))) := by kernel_rfl
@[simp] theorem ret79 : retQ i79 k .r (x0::x1::x2::x3::x4::z) H = k x4 H := nrfl
theorem wb79_0 : wp G b79_0 [x0,x1,x2,x3,x4,x5,x6,x7,x8,x9,aA,aB,aC,aD,aE,aF,aG,aH,aI] H Q = (
  bd (binV .lss x8 x7) fun p0=>
  ifB p0
   (bd (iadrV 4 x0 x8) fun p1=>
   bd (ldV H p1 4 true) fun p2=>
   bd (callV x1) fun c => (true || G.pur c.1) = true ∧ Cl G c.1 ([p2] ++ c.2) H fun p3 p4=>
   ifB p3
    (Q .r [x0,x1,x2,x3,x8,x8,x6,x7,x8,p0,x8,x1,x0,x8,p1,p2,p3,x8,aI] p4)
    (bd (binV .add x8 (.int .i64 1)) fun p5=>
    Q .n [x0,x1,x2,x3,x4,x8,x6,x7,p5,p0,x8,x1,x0,x8,p1,p2,p3,aH,p5] p4))
   (Q (.e 0) [x0,x1,x2,x3,x4,x5,x6,x7,x8,p0,aA,aB,aC,aD,aE,aF,aG,aH,aI] H)) := by kernel_rfl
def Sb79_0 (I : Nat → V → V → V → V → Heap → Prop) : Nat → List V → Heap → Prop := fun i ts H => ts.length = 19 ∧ I i (ts.getD 0 undefV) (ts.getD 1 undefV) (ts.getD 7 undefV) (ts.getD 8 undefV) H
@[simp] theorem Sb79_0_eq {I : Nat → V → V → V → V → Heap → Prop} {i : Nat} : Sb79_0 I i [x0,x1,x2,x3,x4,x5,x6,x7,x8,x9,aA,aB,aC,aD,aE,aF,aG,aH,aI] H = I i x0 x1 x7 x8 H := propext ⟨fun h => h.2,fun h => ⟨rfl,h⟩⟩
theorem ub79_0 (M : Nat) (I : Nat → V → V → V → V → Heap → Prop) (step : ∀ i,i ≤ M → ∀ (x0 x1 x7 x8 : V) (H : Heap),I i x0 x1 x7 x8 H → ∀ (x2 x3 x4 x5 x6 x9 aA aB aC aD aE aF aG aH aI : V),wp G b79_0 [x0,x1,x2,x3,x4,x5,x6,x7,x8,x9,aA,aB,aC,aD,aE,aF,aG,aH,aI] H (upQ M (Sb79_0 I) i Q)) (i : Nat) (hi : i ≤ M) (h : I i x0 x1 x7 x8 H) : Lp G b79_0 [x0,x1,x2,x3,x4,x5,x6,x7,x8,x9,aA,aB,aC,aD,aE,aF,aG,aH,aI] H Q :=
  Lp.up (S := Sb79_0 I) (fun i t H hi hS => (congrArg (fun t => wp G b79_0 t H (upQ M (Sb79_0 I) i Q)) (tabF_eq hS.1)).mpr (step i hi _ _ _ _ H hS.2 ..)) _ i _ H rfl hi ⟨rfl,h⟩
theorem wr79_1 : wp G r79_1 (x0::x1::x2::x3::x4::z) H Q = (
  Q .r (x0::x1::x2::x3::(.int .i64 (-1))::z) H) := by kernel_rfl
theorem w80 : runW G i80 [x0,x1] H k = (
  bd (lensV x0) fun p0=>
  Lp G b80_0 [x0,x1,undefV,undefV,(.int .i64 0),undefV,x0,p0,(.int .i64 0),undefV,undefV,undefV,undefV,undefV,undefV,undefV,undefV,undefV,undefV] H (blockQ 0 (seqQ G r80_1 (retQ i80 k)))) := by kernel_rfl
@[simp] theorem ret80 : retQ i80 k .r (x0::x1::x2::x3::x4::z) H = k x4 H := nrfl
theorem wb80_0 : wp G b80_0 [x0,x1,x2,x3,x4,x5,x6,x7,x8,x9,aA,aB,aC,aD,aE,aF,aG,aH,aI] H Q = (
  bd (binV .lss x8 x7) fun p0=>
  ifB p0
   (bd (iadrV 2 x0 x8) fun p1=>
   bd (ldV H p1 2 true) fun p2=>
   bd (callV x1) fun c => (true || G.pur c.1) = true ∧ Cl G c.1 ([p2] ++ c.2) H fun p3 p4=>
   ifB p3
    (Q .r [x0,x1,x2,x3,x8,x8,x6,x7,x8,p0,x8,x1,x0,x8,p1,p2,p3,x8,aI] p4)
    (bd (binV .add x8 (.int .i64 1)) fun p5=>
    Q .n [x0,x1,x2,x3,x4,x8,x6,x7,p5,p0,x8,x1,x0,x8,p1,p2,p3,aH,p5] p4))
   (Q (.e 0) [x0,x1,x2,x3,x4,x5,x6,x7,x8,p0,aA,aB,aC,aD,aE,aF,aG,aH,aI] H)) := by kernel_rfl
def Sb80_0 (I : Nat → V → V → V → V → Heap → Prop) : Nat → List V → Heap → Prop := fun i ts H => ts.length = 19 ∧ I i (ts.getD 0 undefV) (ts.getD 1 undefV) (ts.getD 7 undefV) (ts.getD 8 undefV) H
@[simp] theorem Sb80_0_eq {I : Nat → V → V → V → V → Heap → Prop} {i : Nat} : Sb80_0 I i [x0,x1,x2,x3,x4,x5,x6,x7,x8,x9,aA,aB,aC,aD,aE,aF,aG,aH,aI] H = I i x0 x1 x7 x8 H := propext ⟨fun h => h.2,fun h => ⟨rfl,h⟩⟩
theorem ub80_0 (M : Nat) (I : Nat → V → V → V → V → Heap → Prop) (step : ∀ i,i ≤ M → ∀ (x0 x1 x7 x8 : V) (H : Heap),I i x0 x1 x7 x8 H → ∀ (x2 x3 x4 x5 x6 x9 aA aB aC aD aE aF aG aH aI : V),wp G b80_0 [x0,x1,x2,x3,x4,x5,x6,x7,x8,x9,aA,aB,aC,aD,aE,aF,aG,aH,aI] H (upQ M (Sb80_0 I) i Q)) (i : Nat) (hi : i ≤ M) (h : I i x0 x1 x7 x8 H) : Lp G b80_0 [x0,x1,x2,x3,x4,x5,x6,x7,x8,x9,aA,aB,aC,aD,aE,aF,aG,aH,aI] H Q :=
  Lp.up (S := Sb80_0 I) (fun i t H hi hS => (congrArg (fun t => wp G b80_0 t H (upQ M (Sb80_0 I) i Q)) (tabF_eq hS.1)).mpr (step i hi _ _ _ _ H hS.2 ..)) _ i _ H rfl hi ⟨rfl,h⟩
theorem wr80_1 : wp G r80_1 (x0::x1::x2::x3::x4::z) H Q = (
  Q .r (x0::x1::x2::x3::(.int .i64 (-1))::z) H) := by kernel_rfl
end
end Go.Proofs.Ytoommmeapdkopaa.E
set_option maxRecDepth 20000
namespace Go.Proofs.Ytoommmeapdkopaa.E
open Go Go.Eng
section
variable {z : List V} {x0 : V} {H : Heap} {k : V → Heap → Prop} {Q : Cont}
end
end Go.Proofs.Ytoommmeapdkopaa.E
set_option maxRecDepth 20000
namespace Go.Proofs.Ytoommmeapdkopaa.E
open Go Go.Eng
section
variable {z : List V} {x0 x1 x2 x3 x4 x5 x6 x7 x8 x9 aA aB aC aD aE aF aG aH aI aJ aK aL aM aN aO aP aQ aR aS aT aU aV aW aX aY aZ cA cB cC cD cE cF cG cH cI cJ cK cL cM cN cO cP cQ cR cS cT cU cV cW cX cY cZ dA dB dC dD dE dF dG dH dI dJ dK dL dM dN dO dP dQ dR dS dT dU dV dW dX dY dZ eA eB eC eD eE eF eG eH eI eJ eK eL eM eN eO eP eQ eR eS eT eU eV eW eX eY eZ fA fB fC fD fE fF fG fH fI fJ fK fL fM fN fO fP fQ fR fS fT fU fV fW fX fY fZ gA gB gC gD gE gF gG gH gI gJ gK gL gM gN gO gP gQ gR gS gT gU gV gW gX gY gZ hA hB hC hD hE hF hG hH hI hJ hK hL hM hN hO hP hQ : V} {H : Heap} {k : V → Heap → Prop} {Q : Cont}
theorem w8 : runW G i8 [x0] H k = (
  bd (bxrV x0) fun p0=>
  (true || G.pur 10) = true ∧ Cl G 10 [] H fun p1 p2=>
  bd (unV .not p1) fun p3=>
  wpg (gdV p3 false) p2 (fun k => bd (ldV p2 p0 2 true) fun p4 => k p4 p2) fun p5 p6=>
  wpg (gdV p3 false) p6 (fun k => (true || G.pur 11) = true ∧ Cl G 11 [p5] p6 fun p7 p8 => k p7 p8) fun p9 pA=>
  wpg (gdV p3 false) pA (fun k => bd (unV .not p9) fun pB => k pB pA) fun pC pD=>
  bd (pickV p3 (.bool true) pC) fun pE=>
  wpg (gdV pE false) pD (fun k => bd (ldV pD p0 2 true) fun pF => k pF pD) fun pG pH=>
  wpg (gdV pE false) pH (fun k => (true || G.pur 14) = true ∧ Cl G 14 [pG] pH fun pI pJ => k pI pJ) fun pK pL=>
  wpg (gdV pE false) pL (fun k => bd (binV .neq pK (.int .i64 0)) fun pM => k pM pL) fun pN pO=>
  bd (pickV pE (.bool true) pN) fun pP=>
  ifB pP
   ((true || G.pur 10) = true ∧ Cl G 10 [] pO fun pQ pR=>
   k pQ pR)
   (bd (ldV pO p0 2 true) fun pS=>
   (true || G.pur 17) = true ∧ Cl G 17 [pS] pO fun pT pU=>
   bd (extV 0 pT) fun pV=>
   bd (extV 1 pT) fun pW=>
   newB pU (.cells [.nils,.nils]) fun pX pY=>
   true = true ∧ bd (stV pY 2 pX pV) fun pZ=>
   bd2 (frzV pZ pX) fun pa pb=>
   bd (ldrV pa 2 true) fun pc=>
   (true || G.pur 17) = true ∧ Cl G 17 [pc] pb fun pd pe=>
   bd (extV 0 pd) fun pf=>
   bd (extV 1 pd) fun pg=>
   newB pe (.cells [.nils,.nils]) fun ph pi=>
   true = true ∧ bd (stV pi 2 ph pf) fun pj=>
   bd2 (frzV pj ph) fun pk pl=>
   bd (ldV pl p0 2 true) fun pm=>
   (true || G.pur 26) = true ∧ Cl G 26 [pm] pl fun pn po=>
   bd (extV 0 pn) fun pp=>
   bd (extV 1 pn) fun pq=>
   bd (ldrV pa 2 true) fun pr=>
   (true || G.pur 26) = true ∧ Cl G 26 [pr] po fun ps pt=>
   bd (extV 0 ps) fun pu=>
   bd (extV 1 ps) fun pv=>
   bd (ldV pt p0 2 true) fun pw=>
   (true || G.pur 16) = true ∧ Cl G 16 [pw] pt fun px py=>
   bd (extV 0 px) fun pz=>
   bd (extV 1 px) fun q0=>
   bd (extV 2 px) fun q1=>
   bd (ldrV pa 2 true) fun q2=>
   (true || G.pur 16) = true ∧ Cl G 16 [q2] py fun q3 q4=>
   bd (extV 0 q3) fun q5=>
   bd (extV 1 q3) fun q6=>
   bd (extV 2 q3) fun q7=>
   bd (ldV q4 p0 2 true) fun q8=>
   (true || G.pur 25) = true ∧ Cl G 25 [q8] q4 fun q9 qA=>
   bd (extV 0 q9) fun qB=>
   bd (extV 1 q9) fun qC=>
   bd (binV .neq pW (.int .i64 0)) fun qD=>
   wpg (gdV qD false) qA (fun k => k pg qA) fun qE qF=>
   wpg (gdV qD false) qF (fun k => bd (binV .neq qE (.int .i64 0)) fun qG => k qG qF) fun qH qI=>
   bd (pickV qD (.bool true) qH) fun qJ=>
   wpg (gdV qJ false) qI (fun k => k pq qI) fun qK qL=>
   wpg (gdV qJ false) qL (fun k => bd (binV .neq qK (.int .i64 0)) fun qM => k qM qL) fun qN qO=>
   bd (pickV qJ (.bool true) qN) fun qP=>
   wpg (gdV qP false) qO (fun k => k pv qO) fun qQ qR=>
   wpg (gdV qP false) qR (fun k => bd (binV .neq qQ (.int .i64 0)) fun qS => k qS qR) fun qT qU=>
   bd (pickV qP (.bool true) qT) fun qV=>
   wpg (gdV qV false) qU (fun k => k q1 qU) fun qW qX=>
   wpg (gdV qV false) qX (fun k => bd (binV .neq qW (.int .i64 0)) fun qY => k qY qX) fun qZ qa=>
   bd (pickV qV (.bool true) qZ) fun qb=>
   wpg (gdV qb false) qa (fun k => k q7 qa) fun qc qd=>
   wpg (gdV qb false) qd (fun k => bd (binV .neq qc (.int .i64 0)) fun qe => k qe qd) fun qf qg=>
   bd (pickV qb (.bool true) qf) fun qh=>
   wpg (gdV qh false) qg (fun k => k qC qg) fun qi qj=>
   wpg (gdV qh false) qj (fun k => bd (binV .neq qi (.int .i64 0)) fun qk => k qk qj) fun ql qm=>
   bd (pickV qh (.bool true) ql) fun qn=>
   wpg (gdV qn false) qm (fun k => k pz qm) fun qo qp=>
   wpg (gdV qn false) qp (fun k => k q5 qp) fun qq qr=>
   wpg (gdV qn false) qr (fun k => bd (binV .neq qo qq) fun qs => k qs qr) fun qt qu=>
   bd (pickV qn (.bool true) qt) fun qv=>
   wpg (gdV qv false) qu (fun k => bd (ldrV pa 2 true) fun qw => k qw qu) fun qx qy=>
   wpg (gdV qv false) qy (fun k => bd (ldrV pk 2 true) fun qz => k qz qy) fun s0 s1=>
   wpg (gdV qv false) s1 (fun k => (true || G.pur 12) = true ∧ Cl G 12 [qx,s0] s1 fun s2 s3 => k s2 s3) fun s4 s5=>
   wpg (gdV qv false) s5 (fun k => bd (unV .not s4) fun s6 => k s6 s5) fun s7 s8=>
   bd (pickV qv (.bool true) s7) fun s9=>
   wpg (gdV s9 false) s8 (fun k => k pp s8) fun sA sB=>
   wpg (gdV s9 false) sB (fun k => bd (lensV sA) fun sC => k sC sB) fun sD sE=>
   wpg (gdV s9 false) sE (fun k => k pu sE) fun sF sG=>
   wpg (gdV s9 false) sG (fun k => bd (lensV sF) fun sH => k sH sG) fun sI sJ=>
   wpg (gdV s9 false) sJ (fun k => bd (binV .neq sD sI) fun sK => k sK sJ) fun sL sM=>
   bd (pickV s9 (.bool true) sL) fun sN=>
   wpg (gdV sN false) sM (fun k => k pp sM) fun sO sP=>
   wpg (gdV sN false) sP (fun k => bd (lensV sO) fun sQ => k sQ sP) fun sR sS=>
   wpg (gdV sN false) sS (fun k => bd (fadrV 0 p0) fun sT => k sT sS) fun sU sV=>
   wpg (gdV sN false) sV (fun k => bd (ldV sV sU 1 false) fun sW => k sW sV) fun sX sY=>
   wpg (gdV sN false) sY (fun k => bd (lensV sX) fun sZ => k sZ sY) fun sa sb=>
   wpg (gdV sN false) sb (fun k => bd (binV .neq sR sa) fun sc => k sc sb) fun sd se=>
   bd (pickV sN (.bool true) sd) fun sf=>
   wpg (gdV sf false) se (fun k => k qB se) fun sg sh=>
   wpg (gdV sf false) sh (fun k => bd (lensV sg) fun si => k si sh) fun sj sk=>
   wpg (gdV sf false) sk (fun k => bd (fadrV 0 p0) fun sl => k sl sk) fun sm sn=>
   wpg (gdV sf false) sn (fun k => bd (ldV sn sm 1 false) fun so => k so sn) fun sp sq=>
   wpg (gdV sf false) sq (fun k => bd (lensV sp) fun sr => k sr sq) fun ss st=>
   wpg (gdV sf false) st (fun k => bd (binV .neq sj ss) fun su => k su st) fun sv sw=>
   bd (pickV sf (.bool true) sv) fun sx=>
   ifB sx
    (k (.bool false) sw)
    (Lp G b8_0 (x0::p0::(.bool false)::pa::pW::pk::pg::pp::pq::pu::pv::pz::q0::q1::q5::q6::q7::qB::qC::(.int .i64 0)::undefV::undefV::p1::p3::p3::p5::p9::pC::pE::pE::pG::pK::pN::pP::undefV::pT::pS::pT::pV::pW::pd::pc::pd::pf::pg::pn::pm::pn::pp::pq::ps::pr::ps::pu::pv::px::pw::px::pz::q0::q1::q3::q2::q3::q5::q6::q7::q9::q8::q9::qB::qC::pW::qD::qD::qE::qH::qJ::qJ::qK::qN::qP::qP::qQ::qT::qV::qV::qW::qZ::qb::qb::qc::qf::qh::qh::qi::ql::qn::qn::qo::qq::qt::qv::qv::qx::s0::s4::s7::s9::s9::sA::sD::sF::sI::sL::sN::sN::sO::sR::sU::sX::sa::sd::sf::sf::sg::sj::sm::sp::ss::sv::sx::undefV::undefV::undefV::undefV::undefV::undefV::undefV::undefV::undefV::undefV::undefV::undefV::undefV::undefV::undefV::undefV::undefV::undefV::undefV::undefV::undefV::undefV::undefV::undefV::undefV::undefV::undefV::undefV::undefV::undefV::undefV::undefV::undefV::undefV::undefV::undefV::undefV::undefV::undefV::undefV::undefV::undefV::undefV::undefV::undefV::undefV::undefV::undefV::undefV::undefV::undefV::[]) sw (blockQ 0 (seqQ G r8_3 (retQ i8 k)))))) := by kernel_rfl
@[simp] theorem ret8 : retQ i8 k .r (x0::x1::x2::z) H = k x2 H := nrfl
theorem wb8_0 : wp G b8_0 (x0::x1::x2::x3::x4::x5::x6::x7::x8::x9::aA::aB::aC::aD::aE::aF::aG::aH::aI::aJ::aK::aL::aM::aN::aO::aP::aQ::aR::aS::aT::aU::aV::aW::aX::aY::aZ::cA::cB::cC::cD::cE::cF::cG::cH::cI::cJ::cK::cL::cM::cN::cO::cP::cQ::cR::cS::cT::cU::cV::cW::cX::cY::cZ::dA::dB::dC::dD::dE::dF::dG::dH::dI::dJ::dK::dL::dM::dN::dO::dP::dQ::dR::dS::dT::dU::dV::dW::dX::dY::dZ::eA::eB::eC::eD::eE::eF::eG::eH::eI::eJ::eK::eL::eM::eN::eO::eP::eQ::eR::eS::eT::eU::eV::eW::eX::eY::eZ::fA::fB::fC::fD::fE::fF::fG::fH::fI::fJ::fK::fL::fM::fN::fO::fP::fQ::fR::fS::fT::fU::fV::fW::fX::fY::fZ::gA::gB::gC::gD::gE::gF::gG::gH::gI::gJ::gK::gL::gM::gN::gO::gP::gQ::gR::gS::gT::gU::gV::gW::gX::gY::gZ::hA::hB::hC::hD::hE::hF::hG::z) H Q = (
  bd (lensV aH) fun p0=>
  bd (binV .lss aJ p0) fun p1=>
  ifB p1
   (bd (iadrV 1 aH aJ) fun p2=>
   bd (ldV H p2 1 false) fun p3=>
   bd (binV .lss p3 (.int .i64 0)) fun p4=>
   wpg (gdV p4 false) H (fun k => k aH H) fun p5 p6=>
   wpg (gdV p4 false) p6 (fun k => k aJ p6) fun p7 p8=>
   wpg (gdV p4 false) p8 (fun k => bd (iadrV 1 p5 p7) fun p9 => k p9 p8) fun pA pB=>
   wpg (gdV p4 false) pB (fun k => bd (ldV pB pA 1 false) fun pC => k pC pB) fun pD pE=>
   wpg (gdV p4 false) pE (fun k => k x7 pE) fun pF pG=>
   wpg (gdV p4 false) pG (fun k => bd (lensV pF) fun pH => k pH pG) fun pI pJ=>
   wpg (gdV p4 false) pJ (fun k => bd (binV .geq pD pI) fun pK => k pK pJ) fun pL pM=>
   bd (pickV p4 (.bool true) pL) fun pN=>
   wpg (gdV pN false) pM (fun k => k x7 pM) fun pO pP=>
   wpg (gdV pN false) pP (fun k => k aJ pP) fun pQ pR=>
   wpg (gdV pN false) pR (fun k => bd (iadrV 1 pO pQ) fun pS => k pS pR) fun pT pU=>
   wpg (gdV pN false) pU (fun k => bd (ldV pU pT 1 false) fun pV => k pV pU) fun pW pX=>
   wpg (gdV pN false) pX (fun k => k x9 pX) fun pY pZ=>
   wpg (gdV pN false) pZ (fun k => k aJ pZ) fun pa pb=>
   wpg (gdV pN false) pb (fun k => bd (iadrV 1 pY pa) fun pc => k pc pb) fun pd pe=>
   wpg (gdV pN false) pe (fun k => bd (ldV pe pd 1 false) fun pf => k pf pe) fun pg ph=>
   wpg (gdV pN false) ph (fun k => (true || G.pur 19) = true ∧ Cl G 19 [pW,pg] ph fun pi pj => k pi pj) fun pk pl=>
   wpg (gdV pN false) pl (fun k => bd (unV .not pk) fun pm => k pm pl) fun pn po=>
   bd (pickV pN (.bool true) pn) fun pp=>
   ifB pp
    (Q .r (x0::x1::(.bool false)::x3::x4::x5::x6::x7::x8::x9::aA::aB::aC::aD::aE::aF::aG::aH::aI::aJ::aK::aL::aM::aN::aO::aP::aQ::aR::aS::aT::aU::aV::aW::aX::aY::aZ::cA::cB::cC::cD::cE::cF::cG::cH::cI::cJ::cK::cL::cM::cN::cO::cP::cQ::cR::cS::cT::cU::cV::cW::cX::cY::cZ::dA::dB::dC::dD::dE::dF::dG::dH::dI::dJ::dK::dL::dM::dN::dO::dP::dQ::dR::dS::dT::dU::dV::dW::dX::dY::dZ::eA::eB::eC::eD::eE::eF::eG::eH::eI::eJ::eK::eL::eM::eN::eO::eP::eQ::eR::eS::eT::eU::eV::eW::eX::eY::eZ::fA::fB::fC::fD::fE::fF::fG::fH::fI::fJ::fK::fL::fM::fN::fO::fP::fQ::fR::aJ::aH::p0::p1::fW::fX::aH::aJ::p2::p3::p4::p4::p5::p7::pA::pD::pF::pI::pL::pN::pN::pO::pQ::pT::pW::pY::pa::pd::pg::pk::pn::pp::gY::gZ::hA::hB::hC::hD::hE::hF::hG::z) po)
    (bd (iadrV 1 aH aJ) fun pq=>
    bd (ldV po pq 1 false) fun pr=>
    bd (iadrV 1 x7 pr) fun ps=>
    bd (ldV po ps 1 false) fun pt=>
    bd (lensV pt) fun pu=>
    Lp G b8_1 (x0::x1::x2::x3::x4::x5::x6::x7::x8::x9::aA::aB::aC::aD::aE::aF::aG::aH::aI::aJ::aK::aL::aM::aN::aO::aP::aQ::aR::aS::aT::aU::aV::aW::aX::aY::aZ::cA::cB::cC::cD::cE::cF::cG::cH::cI::cJ::cK::cL::cM::cN::cO::cP::cQ::cR::cS::cT::cU::cV::cW::cX::cY::cZ::dA::dB::dC::dD::dE::dF::dG::dH::dI::dJ::dK::dL::dM::dN::dO::dP::dQ::dR::dS::dT::dU::dV::dW::dX::dY::dZ::eA::eB::eC::eD::eE::eF::eG::eH::eI::eJ::eK::eL::eM::eN::eO::eP::eQ::eR::eS::eT::eU::eV::eW::eX::eY::eZ::fA::fB::fC::fD::fE::fF::fG::fH::fI::fJ::fK::fL::fM::fN::fO::fP::fQ::fR::aJ::aH::p0::p1::fW::fX::aH::aJ::p2::p3::p4::p4::p5::p7::pA::pD::pF::pI::pL::pN::pN::pO::pQ::pT::pW::pY::pa::pd::pg::pk::pn::pp::x7::aH::aJ::pq::pr::ps::pt::pu::(.int .i64 0)::z) po (blockQ 2 (blockQ 1 (seqQ G r8_2 Q)))))
   (Q (.e 0) (x0::x1::x2::x3::x4::x5::x6::x7::x8::x9::aA::aB::aC::aD::aE::aF::aG::aH::aI::aJ::aK::aL::aM::aN::aO::aP::aQ::aR::aS::aT::aU::aV::aW::aX::aY::aZ::cA::cB::cC::cD::cE::cF::cG::cH::cI::cJ::cK::cL::cM::cN::cO::cP::cQ::cR::cS::cT::cU::cV::cW::cX::cY::cZ::dA::dB::dC::dD::dE::dF::dG::dH::dI::dJ::dK::dL::dM::dN::dO::dP::dQ::dR::dS::dT::dU::dV::dW::dX::dY::dZ::eA::eB::eC::eD::eE::eF::eG::eH::eI::eJ::eK::eL::eM::eN::eO::eP::eQ::eR::eS::eT::eU::eV::eW::eX::eY::eZ::fA::fB::fC::fD::fE::fF::fG::fH::fI::fJ::fK::fL::fM::fN::fO::fP::fQ::fR::aJ::aH::p0::p1::fW::fX::fY::fZ::gA::gB::gC::gD::gE::gF::gG::gH::gI::gJ::gK::gL::gM::gN::gO::gP::gQ::gR::gS::gT::gU::gV::gW::gX::gY::gZ::hA::hB::hC::hD::hE::hF::hG::z) H)) := by kernel_rfl
def Sb8_0 (I : Nat → V → V → V → V → Heap → Prop) : Nat → List V → Heap → Prop := fun i ts H => ts.length = 183 ∧ I i (ts.getD 7 undefV) (ts.getD 9 undefV) (ts.getD 17 undefV) (ts.getD 19 undefV) H
@[simp] theorem Sb8_0_eq {I : Nat → V → V → V → V → Heap → Prop} {i : Nat} : Sb8_0 I i (x0::x1::x2::x3::x4::x5::x6::x7::x8::x9::aA::aB::aC::aD::aE::aF::aG::aH::aI::aJ::aK::aL::aM::aN::aO::aP::aQ::aR::aS::aT::aU::aV::aW::aX::aY::aZ::cA::cB::cC::cD::cE::cF::cG::cH::cI::cJ::cK::cL::cM::cN::cO::cP::cQ::cR::cS::cT::cU::cV::cW::cX::cY::cZ::dA::dB::dC::dD::dE::dF::dG::dH::dI::dJ::dK::dL::dM::dN::dO::dP::dQ::dR::dS::dT::dU::dV::dW::dX::dY::dZ::eA::eB::eC::eD::eE::eF::eG::eH::eI::eJ::eK::eL::eM::eN::eO::eP::eQ::eR::eS::eT::eU::eV::eW::eX::eY::eZ::fA::fB::fC::fD::fE::fF::fG::fH::fI::fJ::fK::fL::fM::fN::fO::fP::fQ::fR::fS::fT::fU::fV::fW::fX::fY::fZ::gA::gB::gC::gD::gE::gF::gG::gH::gI::gJ::gK::gL::gM::gN::gO::gP::gQ::gR::gS::gT::gU::gV::gW::gX::gY::gZ::hA::hB::hC::hD::hE::hF::hG::hH::hI::hJ::hK::hL::hM::hN::hO::hP::hQ::[]) H = I i x7 x9 aH aJ H := propext ⟨fun h => h.2,fun h => ⟨rfl,h⟩⟩
def Lb8_0 (x7 x9 aH aJ : V) (H : Heap) (Q : Cont) : Prop := ∀ (x0 x1 x2 x3 x4 x5 x6 x8 aA aB aC aD aE aF aG aI aK aL aM aN aO aP aQ aR aS aT aU aV aW aX aY aZ cA cB cC cD cE cF cG cH cI cJ cK cL cM cN cO cP cQ cR cS cT cU cV cW cX cY cZ dA dB dC dD dE dF dG dH dI dJ dK dL dM dN dO dP dQ dR dS dT dU dV dW dX dY dZ eA eB eC eD eE eF eG eH eI eJ eK eL eM eN eO eP eQ eR eS eT eU eV eW eX eY eZ fA fB fC fD fE fF fG fH fI fJ fK fL fM fN fO fP fQ fR fS fT fU fV fW fX fY fZ gA gB gC gD gE gF gG gH gI gJ gK gL gM gN gO gP gQ gR gS gT gU gV gW gX gY gZ hA hB hC hD hE hF hG hH hI hJ hK hL hM hN hO hP hQ : V),Lp G b8_0 (x0::x1::x2::x3::x4::x5::x6::x7::x8::x9::aA::aB::aC::aD::aE::aF::aG::aH::aI::aJ::aK::aL::aM::aN::aO::aP::aQ::aR::aS::aT::aU::aV::aW::aX::aY::aZ::cA::cB::cC::cD::cE::cF::cG::cH::cI::cJ::cK::cL::cM::cN::cO::cP::cQ::cR::cS::cT::cU::cV::cW::cX::cY::cZ::dA::dB::dC::dD::dE::dF::dG::dH::dI::dJ::dK::dL::dM::dN::dO::dP::dQ::dR::dS::dT::dU::dV::dW::dX::dY::dZ::eA::eB::eC::eD::eE::eF::eG::eH::eI::eJ::eK::eL::eM::eN::eO::eP::eQ::eR::eS::eT::eU::eV::eW::eX::eY::eZ::fA::fB::fC::fD::fE::fF::fG::fH::fI::fJ::fK::fL::fM::fN::fO::fP::fQ::fR::fS::fT::fU::fV::fW::fX::fY::fZ::gA::gB::gC::gD::gE::gF::gG::gH::gI::gJ::gK::gL::gM::gN::gO::gP::gQ::gR::gS::gT::gU::gV::gW::gX::gY::gZ::hA::hB::hC::hD::hE::hF::hG::hH::hI::hJ::hK::hL::hM::hN::hO::hP::hQ::[]) H Q
theorem ub8_0 (M : Nat) (I : Nat → V → V → V → V → Heap → Prop) (step : ∀ i,i ≤ M → ∀ (x7 x9 aH aJ : V) (H : Heap),I i x7 x9 aH aJ H → ∀ (x0 x1 x2 x3 x4 x5 x6 x8 aA aB aC aD aE aF aG aI aK aL aM aN aO aP aQ aR aS aT aU aV aW aX aY aZ cA cB cC cD cE cF cG cH cI cJ cK cL cM cN cO cP cQ cR cS cT cU cV cW cX cY cZ dA dB dC dD dE dF dG dH dI dJ dK dL dM dN dO dP dQ dR dS dT dU dV dW dX dY dZ eA eB eC eD eE eF eG eH eI eJ eK eL eM eN eO eP eQ eR eS eT eU eV eW eX eY eZ fA fB fC fD fE fF fG fH fI fJ fK fL fM fN fO fP fQ fR fS fT fU fV fW fX fY fZ gA gB gC gD gE gF gG gH gI gJ gK gL gM gN gO gP gQ gR gS gT gU gV gW gX gY gZ hA hB hC hD hE hF hG hH hI hJ hK hL hM hN hO hP hQ : V),wp G b8_0 (x0::x1::x2::x3::x4::x5::x6::x7::x8::x9::aA::aB::aC::aD::aE::aF::aG::aH::aI::aJ::aK::aL::aM::aN::aO::aP::aQ::aR::aS::aT::aU::aV::aW::aX::aY::aZ::cA::cB::cC::cD::cE::cF::cG::cH::cI::cJ::cK::cL::cM::cN::cO::cP::cQ::cR::cS::cT::cU::cV::cW::cX::cY::cZ::dA::dB::dC::dD::dE::dF::dG::dH::dI::dJ::dK::dL::dM::dN::dO::dP::dQ::dR::dS::dT::dU::dV::dW::dX::dY::dZ::eA::eB::eC::eD::eE::eF::eG::eH::eI::eJ::eK::eL::eM::eN::eO::eP::eQ::eR::eS::eT::eU::eV::eW::eX::eY::eZ::fA::fB::fC::fD::fE::fF::fG::fH::fI::fJ::fK::fL::fM::fN::fO::fP::fQ::fR::fS::fT::fU::fV::fW::fX::fY::fZ::gA::gB::gC::gD::gE::gF::gG::gH::gI::gJ::gK::gL::gM::gN::gO::gP::gQ::gR::gS::gT::gU::gV::gW::gX::gY::gZ::hA::hB::hC::hD::hE::hF::hG::hH::hI::hJ::hK::hL::hM::hN::hO::hP::hQ::[]) H (upQ M (Sb8_0 I) i Q)) (i : Nat) (hi : i ≤ M) (h : I i x7 x9 aH aJ H) : Lp G b8_0 (x0::x1::x2::x3::x4::x5::x6::x7::x8::x9::aA::aB::aC::aD::aE::aF::aG::aH::aI::aJ::aK::aL::aM::aN::aO::aP::aQ::aR::aS::aT::aU::aV::aW::aX::aY::aZ::cA::cB::cC::cD::cE::cF::cG::cH::cI::cJ::cK::cL::cM::cN::cO::cP::cQ::cR::cS::cT::cU::cV::cW::cX::cY::cZ::dA::dB::dC::dD::dE::dF::dG::dH::dI::dJ::dK::dL::dM::dN::dO::dP::dQ::dR::dS::dT::dU::dV::dW::dX::dY::dZ::eA::eB::eC::eD::eE::eF::eG::eH::eI::eJ::eK::eL::eM::eN::eO::eP::eQ::eR::eS::eT::eU::eV::eW::eX::eY::eZ::fA::fB::fC::fD::fE::fF::fG::fH::fI::fJ::fK::fL::fM::fN::fO::fP::fQ::fR::fS::fT::fU::fV::fW::fX::fY::fZ::gA::gB::gC::gD::gE::gF::gG::gH::gI::gJ::gK::gL::gM::gN::gO::gP::gQ::gR::gS::gT::gU::gV::gW::gX::gY::gZ::hA::hB::hC::hD::hE::hF::hG::hH::hI::hJ::hK::hL::hM::hN::hO::hP::hQ::[]) H Q :=
  Lp.up (S := Sb8_0 I) (fun i t H hi hS => (congrArg (fun t => wp G b8_0 t H (upQ M (Sb8_0 I) i Q)) (tabF_eq hS.1)).mpr (step i hi _ _ _ _ H hS.2 ..)) _ i _ H rfl hi ⟨rfl,h⟩
theorem wb8_1 : wp G b8_1 (x0::x1::x2::x3::x4::x5::x6::x7::x8::x9::aA::aB::aC::aD::aE::aF::aG::aH::aI::aJ::aK::aL::aM::aN::aO::aP::aQ::aR::aS::aT::aU::aV::aW::aX::aY::aZ::cA::cB::cC::cD::cE::cF::cG::cH::cI::cJ::cK::cL::cM::cN::cO::cP::cQ::cR::cS::cT::cU::cV::cW::cX::cY::cZ::dA::dB::dC::dD::dE::dF::dG::dH::dI::dJ::dK::dL::dM::dN::dO::dP::dQ::dR::dS::dT::dU::dV::dW::dX::dY::dZ::eA::eB::eC::eD::eE::eF::eG::eH::eI::eJ::eK::eL::eM::eN::eO::eP::eQ::eR::eS::eT::eU::eV::eW::eX::eY::eZ::fA::fB::fC::fD::fE::fF::fG::fH::fI::fJ::fK::fL::fM::fN::fO::fP::fQ::fR::fS::fT::fU::fV::fW::fX::fY::fZ::gA::gB::gC::gD::gE::gF::gG::gH::gI::gJ::gK::gL::gM::gN::gO::gP::gQ::gR::gS::gT::gU::gV::gW::gX::gY::gZ::hA::hB::hC::hD::hE::hF::hG::hH::hI::hJ::hK::hL::hM::hN::hO::hP::hQ::[]) H Q = (
  bd (binV .lss hG hF) fun p0=>
  ifB p0
   (bd (iadrV 1 hE hG) fun p1=>
   bd (ldV H p1 1 false) fun p2=>
   bd (slcV 1 aH none (some aJ) none) fun p3=>
   (true || G.pur 22) = true ∧ Cl G 22 [p3,p2] H fun p4 p5=>
   bd (unV .not p4) fun p6=>
   ifB p6
    (Q .r (x0::x1::(.bool false)::x3::x4::x5::x6::x7::x8::x9::aA::aB::aC::aD::aE::aF::aG::aH::aI::aJ::aK::p2::aM::aN::aO::aP::aQ::aR::aS::aT::aU::aV::aW::aX::aY::aZ::cA::cB::cC::cD::cE::cF::cG::cH::cI::cJ::cK::cL::cM::cN::cO::cP::cQ::cR::cS::cT::cU::cV::cW::cX::cY::cZ::dA::dB::dC::dD::dE::dF::dG::dH::dI::dJ::dK::dL::dM::dN::dO::dP::dQ::dR::dS::dT::dU::dV::dW::dX::dY::dZ::eA::eB::eC::eD::eE::eF::eG::eH::eI::eJ::eK::eL::eM::eN::eO::eP::eQ::eR::eS::eT::eU::eV::eW::eX::eY::eZ::fA::fB::fC::fD::fE::fF::fG::fH::fI::fJ::fK::fL::fM::fN::fO::fP::fQ::fR::fS::fT::fU::fV::fW::fX::fY::fZ::gA::gB::gC::gD::gE::gF::gG::gH::gI::gJ::gK::gL::gM::gN::gO::gP::gQ::gR::gS::gT::gU::gV::gW::gX::gY::gZ::hA::hB::hC::hD::hE::hF::hG::p0::p1::p2::aH::aJ::p3::p2::p4::p6::hQ::[]) p5)
    (bd (binV .add hG (.int .i64 1)) fun p7=>
    Q .n (x0::x1::x2::x3::x4::x5::x6::x7::x8::x9::aA::aB::aC::aD::aE::aF::aG::aH::aI::aJ::aK::p2::aM::aN::aO::aP::aQ::aR::aS::aT::aU::aV::aW::aX::aY::aZ::cA::cB::cC::cD::cE::cF::cG::cH::cI::cJ::cK::cL::cM::cN::cO::cP::cQ::cR::cS::cT::cU::cV::cW::cX::cY::cZ::dA::dB::dC::dD::dE::dF::dG::dH::dI::dJ::dK::dL::dM::dN::dO::dP::dQ::dR::dS::dT::dU::dV::dW::dX::dY::dZ::eA::eB::eC::eD::eE::eF::eG::eH::eI::eJ::eK::eL::eM::eN::eO::eP::eQ::eR::eS::eT::eU::eV::eW::eX::eY::eZ::fA::fB::fC::fD::fE::fF::fG::fH::fI::fJ::fK::fL::fM::fN::fO::fP::fQ::fR::fS::fT::fU::fV::fW::fX::fY::fZ::gA::gB::gC::gD::gE::gF::gG::gH::gI::gJ::gK::gL::gM::gN::gO::gP::gQ::gR::gS::gT::gU::gV::gW::gX::gY::gZ::hA::hB::hC::hD::hE::hF::p7::p0::p1::p2::aH::aJ::p3::p2::p4::p6::p7::[]) p5))
   (Q (.e 2) (x0::x1::x2::x3::x4::x5::x6::x7::x8::x9::aA::aB::aC::aD::aE::aF::aG::aH::aI::aJ::aK::aL::aM::aN::aO::aP::aQ::aR::aS::aT::aU::aV::aW::aX::aY::aZ::cA::cB::cC::cD::cE::cF::cG::cH::cI::cJ::cK::cL::cM::cN::cO::cP::cQ::cR::cS::cT::cU::cV::cW::cX::cY::cZ::dA::dB::dC::dD::dE::dF::dG::dH::dI::dJ::dK::dL::dM::dN::dO::dP::dQ::dR::dS::dT::dU::dV::dW::dX::dY::dZ::eA::eB::eC::eD::eE::eF::eG::eH::eI::eJ::eK::eL::eM::eN::eO::eP::eQ::eR::eS::eT::eU::eV::eW::eX::eY::eZ::fA::fB::fC::fD::fE::fF::fG::fH::fI::fJ::fK::fL::fM::fN::fO::fP::fQ::fR::fS::fT::fU::fV::fW::fX::fY::fZ::gA::gB::gC::gD::gE::gF::gG::gH::gI::gJ::gK::gL::gM::gN::gO::gP::gQ::gR::gS::gT::gU::gV::gW::gX::gY::gZ::hA::hB::hC::hD::hE::hF::hG::p0::hI::hJ::hK::hL::hM::hN::hO::hP::hQ::[]) H)) := by kernel_rfl
def Sb8_1 (I : Nat → V → V → V → V → V → V → V → Heap → Prop) : Nat → List V → Heap → Prop := fun i ts H => ts.length = 183 ∧ I i (ts.getD 7 undefV) (ts.getD 9 undefV) (ts.getD 17 undefV) (ts.getD 19 undefV) (ts.getD 170 undefV) (ts.getD 171 undefV) (ts.getD 172 undefV) H
@[simp] theorem Sb8_1_eq {I : Nat → V → V → V → V → V → V → V → Heap → Prop} {i : Nat} : Sb8_1 I i (x0::x1::x2::x3::x4::x5::x6::x7::x8::x9::aA::aB::aC::aD::aE::aF::aG::aH::aI::aJ::aK::aL::aM::aN::aO::aP::aQ::aR::aS::aT::aU::aV::aW::aX::aY::aZ::cA::cB::cC::cD::cE::cF::cG::cH::cI::cJ::cK::cL::cM::cN::cO::cP::cQ::cR::cS::cT::cU::cV::cW::cX::cY::cZ::dA::dB::dC::dD::dE::dF::dG::dH::dI::dJ::dK::dL::dM::dN::dO::dP::dQ::dR::dS::dT::dU::dV::dW::dX::dY::dZ::eA::eB::eC::eD::eE::eF::eG::eH::eI::eJ::eK::eL::eM::eN::eO::eP::eQ::eR::eS::eT::eU::eV::eW::eX::eY::eZ::fA::fB::fC::fD::fE::fF::fG::fH::fI::fJ::fK::fL::fM::fN::fO::fP::fQ::fR::fS::fT::fU::fV::fW::fX::fY::fZ::gA::gB::gC::gD::gE::gF::gG::gH::gI::gJ::gK::gL::gM::gN::gO::gP::gQ::gR::gS::gT::gU::gV::gW::gX::gY::gZ::hA::hB::hC::hD::hE::hF::hG::hH::hI::hJ::hK::hL::hM::hN::hO::hP::hQ::[]) H = I i x7 x9 aH aJ hE hF hG H := propext ⟨fun h => h.2,fun h => ⟨rfl,h⟩⟩
theorem ub8_1 (M : Nat) (I : Nat → V → V → V → V → V → V → V → Heap → Prop) (step : ∀ i,i ≤ M → ∀ (x7 x9 aH aJ hE hF hG : V) (H : Heap),I i x7 x9 aH aJ hE hF hG H → ∀ (x0 x1 x2 x3 x4 x5 x6 x8 aA aB aC aD aE aF aG aI aK aL aM aN aO aP aQ aR aS aT aU aV aW aX aY aZ cA cB cC cD cE cF cG cH cI cJ cK cL cM cN cO cP cQ cR cS cT cU cV cW cX cY cZ dA dB dC dD dE dF dG dH dI dJ dK dL dM dN dO dP dQ dR dS dT dU dV dW dX dY dZ eA eB eC eD eE eF eG eH eI eJ eK eL eM eN eO eP eQ eR eS eT eU eV eW eX eY eZ fA fB fC fD fE fF fG fH fI fJ fK fL fM fN fO fP fQ fR fS fT fU fV fW fX fY fZ gA gB gC gD gE gF gG gH gI gJ gK gL gM gN gO gP gQ gR gS gT gU gV gW gX gY gZ hA hB hC hD hH hI hJ hK hL hM hN hO hP hQ : V),wp G b8_1 (x0::x1::x2::x3::x4::x5::x6::x7::x8::x9::aA::aB::aC::aD::aE::aF::aG::aH::aI::aJ::aK::aL::aM::aN::aO::aP::aQ::aR::aS::aT::aU::aV::aW::aX::aY::aZ::cA::cB::cC::cD::cE::cF::cG::cH::cI::cJ::cK::cL::cM::cN::cO::cP::cQ::cR::cS::cT::cU::cV::cW::cX::cY::cZ::dA::dB::dC::dD::dE::dF::dG::dH::dI::dJ::dK::dL::dM::dN::dO::dP::dQ::dR::dS::dT::dU::dV::dW::dX::dY::dZ::eA::eB::eC::eD::eE::eF::eG::eH::eI::eJ::eK::eL::eM::eN::eO::eP::eQ::eR::eS::eT::eU::eV::eW::eX::eY::eZ::fA::fB::fC::fD::fE::fF::fG::fH::fI::fJ::fK::fL::fM::fN::fO::fP::fQ::fR::fS::fT::fU::fV::fW::fX::fY::fZ::gA::gB::gC::gD::gE::gF::gG::gH::gI::gJ::gK::gL::gM::gN::gO::gP::gQ::gR::gS::gT::gU::gV::gW::gX::gY::gZ::hA::hB::hC::hD::hE::hF::hG::hH::hI::hJ::hK::hL::hM::hN::hO::hP::hQ::[]) H (upQ M (Sb8_1 I) i Q)) (i : Nat) (hi : i ≤ M) (h : I i x7 x9 aH aJ hE hF hG H) : Lp G b8_1 (x0::x1::x2::x3::x4::x5::x6::x7::x8::x9::aA::aB::aC::aD::aE::aF::aG::aH::aI::aJ::aK::aL::aM::aN::aO::aP::aQ::aR::aS::aT::aU::aV::aW::aX::aY::aZ::cA::cB::cC::cD::cE::cF::cG::cH::cI::cJ::cK::cL::cM::cN::cO::cP::cQ::cR::cS::cT::cU::cV::cW::cX::cY::cZ::dA::dB::dC::dD::dE::dF::dG::dH::dI::dJ::dK::dL::dM::dN::dO::dP::dQ::dR::dS::dT::dU::dV::dW::dX::dY::dZ::eA::eB::eC::eD::eE::eF::eG::eH::eI::eJ::eK::eL::eM::eN::eO::eP::eQ::eR::eS::eT::eU::eV::eW::eX::eY::eZ::fA::fB::fC::fD::fE::fF::fG::fH::fI::fJ::fK::fL::fM::fN::fO::fP::fQ::fR::fS::fT::fU::fV::fW::fX::fY::fZ::gA::gB::gC::gD::gE::gF::gG::gH::gI::gJ::gK::gL::gM::gN::gO::gP::gQ::gR::gS::gT::gU::gV::gW::gX::gY::gZ::hA::hB::hC::hD::hE::hF::hG::hH::hI::hJ::hK::hL::hM::hN::hO::hP::hQ::[]) H Q :=
  Lp.up (S := Sb8_1 I) (fun i t H hi hS => (congrArg (fun t => wp G b8_1 t H (upQ M (Sb8_1 I) i Q)) (tabF_eq hS.1)).mpr (step i hi _ _ _ _ _ _ _ H hS.2 ..)) _ i _ H rfl hi ⟨rfl,h⟩
theorem wr8_2 : wp G r8_2 (x0::x1::x2::x3::x4::x5::x6::x7::x8::x9::aA::aB::aC::aD::aE::aF::aG::aH::aI::aJ::aK::aL::aM::aN::aO::aP::aQ::aR::aS::aT::aU::aV::aW::aX::aY::aZ::cA::cB::cC::cD::cE::cF::cG::cH::cI::cJ::cK::cL::cM::cN::cO::cP::cQ::cR::cS::cT::cU::cV::cW::cX::cY::cZ::dA::dB::dC::dD::dE::dF::dG::dH::dI::dJ::dK::dL::dM::dN::dO::dP::dQ::dR::dS::dT::dU::dV::dW::dX::dY::dZ::eA::eB::eC::eD::eE::eF::eG::eH::eI::eJ::eK::eL::eM::eN::eO::eP::eQ::eR::eS::eT::eU::eV::eW::eX::eY::eZ::fA::fB::fC::fD::fE::fF::fG::fH::fI::fJ::fK::fL::fM::fN::fO::fP::fQ::fR::fS::fT::fU::fV::fW::fX::z) H Q = (
  bd (binV .add aJ (.int .i64 1)) fun p0=>
  Q .n (x0::x1::x2::x3::x4::x5::x6::x7::x8::x9::aA::aB::aC::aD::aE::aF::aG::aH::aI::p0::aK::aL::aM::aN::aO::aP::aQ::aR::aS::aT::aU::aV::aW::aX::aY::aZ::cA::cB::cC::cD::cE::cF::cG::cH::cI::cJ::cK::cL::cM::cN::cO::cP::cQ::cR::cS::cT::cU::cV::cW::cX::cY::cZ::dA::dB::dC::dD::dE::dF::dG::dH::dI::dJ::dK::dL::dM::dN::dO::dP::dQ::dR::dS::dT::dU::dV::dW::dX::dY::dZ::eA::eB::eC::eD::eE::eF::eG::eH::eI::eJ::eK::eL::eM::eN::eO::eP::eQ::eR::eS::eT::eU::eV::eW::eX::eY::eZ::fA::fB::fC::fD::fE::fF::fG::fH::fI::fJ::fK::fL::fM::fN::fO::fP::fQ::fR::fS::fT::fU::fV::aJ::p0::z) H) := by kernel_rfl
theorem wr8_3 : wp G r8_3 (x0::x1::x2::z) H Q = (
  Q .r (x0::x1::(.bool true)::z) H) := by kernel_rfl
end
end Go.Proofs.Ytoommmeapdkopaa.E
