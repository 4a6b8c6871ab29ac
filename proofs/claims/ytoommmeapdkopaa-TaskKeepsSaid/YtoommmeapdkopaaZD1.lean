/- What the interpreter owes at each of these functions, line by line: equations, each by the kernel. No conditions. -/
import Derived.Test.YtoommmeapdkopaaZC2
import Derived.KernelRfl
set_option maxRecDepth 20000
namespace Go.Proofs.Ytoommmeapdkopaa.E
open Go Go.Eng
section
variable {z : List V} {x0 x1 x2 x3 x4 x5 x6 x7 x8 x9 aA aB aC aD aE aF aG aH aI aJ aK aL aM aN aO aP aQ aR aS aT aU aV aW aX aY aZ cA cB cC cD cE cF cG cH cI cJ cK cL cM cN cO cP cQ cR cS cT cU cV cW cX cY cZ dA dB dC dD dE dF dG dH dI dJ dK dL dM dN dO dP dQ dR dS dT dU dV dW dX dY dZ eA eB eC eD eE eF eG eH eI eJ : V} {H : Heap} {k : V → Heap → Prop} {Q : Cont}
@[simp] theorem pur31 : G.pur 31 = true := by kernel_rfl
@[simp] theorem pur33 : G.pur 33 = true := by kernel_rfl
@[simp] theorem pur34 : G.pur 34 = true := by kernel_rfl
@[simp] theorem pur36 : G.pur 36 = true := by kernel_rfl
@[simp] theorem pur50 : G.pur 50 = true := by kernel_rfl
@[simp] theorem pur51 : G.pur 51 = true := by kernel_rfl
@[simp] theorem pur56 : G.pur 56 = true := by kernel_rfl
@[simp] theorem pur59 : G.pur 59 = true := by kernel_rfl
@[simp] theorem pur66 : G.pur 66 = true := by kernel_rfl
@[simp] theorem pur69 : G.pur 69 = true := by kernel_rfl
@[simp] theorem pur71 : G.pur 71 = true := by kernel_rfl
@[simp] theorem pur77 : G.pur 77 = true := by kernel_rfl
@[simp] theorem pur78 : G.pur 78 = true := by kernel_rfl
@[simp] theorem pur82 : G.pur 82 = true := by kernel_rfl
@[simp] theorem pur85 : G.pur 85 = true := by kernel_rfl
@[simp] theorem pur97 : G.pur 97 = true := by kernel_rfl
theorem w11 : runW G i11 [x0] H k = (
  bd (bxrV x0) fun p0=>
  bd (fadrV 0 p0) fun p1=>
  bd (ldV H p1 1 false) fun p2=>
  bd (lensV p2) fun p3=>
  bd (binV .gtr p3 (.int .i64 8)) fun p4=>
  wpg (gdV p4 false) H (fun k => bd (fadrV 1 p0) fun p5 => k p5 H) fun p6 p7=>
  wpg (gdV p4 false) p7 (fun k => bd (ldV p7 p6 1 false) fun p8 => k p8 p7) fun p9 pA=>
  wpg (gdV p4 false) pA (fun k => bd (lensV p9) fun pB => k pB pA) fun pC pD=>
  wpg (gdV p4 false) pD (fun k => bd (binV .gtr pC (.int .i64 4)) fun pE => k pE pD) fun pF pG=>
  bd (pickV p4 (.bool true) pF) fun pH=>
  ifB pH
   (k (.bool false) pG)
   (Lp G b11_0 (x0::p0::(.bool false)::(.int .i64 0)::undefV::undefV::p1::p2::p3::p4::p4::p6::p9::pC::pF::pH::undefV::undefV::undefV::undefV::undefV::undefV::undefV::undefV::undefV::undefV::undefV::undefV::undefV::undefV::undefV::undefV::undefV::undefV::undefV::undefV::undefV::undefV::undefV::undefV::undefV::undefV::undefV::undefV::undefV::undefV::undefV::undefV::undefV::undefV::undefV::undefV::undefV::undefV::undefV::undefV::undefV::undefV::undefV::undefV::undefV::undefV::undefV::undefV::undefV::undefV::undefV::undefV::undefV::undefV::undefV::undefV::undefV::undefV::undefV::undefV::undefV::undefV::undefV::undefV::undefV::undefV::undefV::undefV::undefV::undefV::undefV::undefV::undefV::undefV::undefV::undefV::undefV::undefV::undefV::undefV::undefV::undefV::[]) pG (blockQ 0 (seqQ G r11_1 (retQ i11 k))))) := by kernel_rfl
@[simp] theorem ret11 : retQ i11 k .r (x0::x1::x2::z) H = k x2 H := nrfl
theorem wb11_0 : wp G b11_0 (x0::x1::x2::x3::x4::x5::x6::x7::x8::x9::aA::aB::aC::aD::aE::aF::aG::aH::aI::aJ::aK::aL::aM::aN::aO::aP::aQ::aR::aS::aT::aU::aV::aW::aX::aY::aZ::cA::cB::cC::cD::cE::cF::cG::cH::cI::cJ::cK::cL::cM::cN::cO::z) H Q = (
  bd (fadrV 0 x1) fun p0=>
  bd (ldV H p0 1 false) fun p1=>
  bd (lensV p1) fun p2=>
  bd (binV .lss x3 p2) fun p3=>
  ifB p3
   (bd (fadrV 0 x1) fun p4=>
   bd (ldV H p4 1 false) fun p5=>
   bd (iadrV 4 p5 x3) fun p6=>
   bd (fadrV 3 p6) fun p7=>
   bd (ldV H p7 1 false) fun p8=>
   bd (lensV p8) fun p9=>
   bd (binV .gtr p9 (.int .i64 10)) fun pA=>
   wpg (gdV pA false) H (fun k => bd (fadrV 0 x1) fun pB => k pB H) fun pC pD=>
   wpg (gdV pA false) pD (fun k => bd (ldV pD pC 1 false) fun pE => k pE pD) fun pF pG=>
   wpg (gdV pA false) pG (fun k => k x3 pG) fun pH pI=>
   wpg (gdV pA false) pI (fun k => bd (iadrV 4 pF pH) fun pJ => k pJ pI) fun pK pL=>
   wpg (gdV pA false) pL (fun k => bd (fadrV 0 pK) fun pM => k pM pL) fun pN pO=>
   wpg (gdV pA false) pO (fun k => bd (ldV pO pN 1 false) fun pP => k pP pO) fun pQ pR=>
   wpg (gdV pA false) pR (fun k => bd (lentV pQ) fun pS => k pS pR) fun pT pU=>
   wpg (gdV pA false) pU (fun k => bd (binV .gtr pT (.int .i64 50)) fun pV => k pV pU) fun pW pX=>
   bd (pickV pA (.bool true) pW) fun pY=>
   wpg (gdV pY false) pX (fun k => bd (fadrV 0 x1) fun pZ => k pZ pX) fun pa pb=>
   wpg (gdV pY false) pb (fun k => bd (ldV pb pa 1 false) fun pc => k pc pb) fun pd pe=>
   wpg (gdV pY false) pe (fun k => k x3 pe) fun pf pg=>
   wpg (gdV pY false) pg (fun k => bd (iadrV 4 pd pf) fun ph => k ph pg) fun pi pj=>
   wpg (gdV pY false) pj (fun k => bd (fadrV 2 pi) fun pk => k pk pj) fun pl pm=>
   wpg (gdV pY false) pm (fun k => bd (ldV pm pl 1 false) fun pn => k pn pm) fun po pp=>
   wpg (gdV pY false) pp (fun k => bd (lentV po) fun pq => k pq pp) fun pr ps=>
   wpg (gdV pY false) ps (fun k => bd (binV .gtr pr (.int .i64 50)) fun pt => k pt ps) fun pu pv=>
   bd (pickV pY (.bool true) pu) fun pw=>
   ifB pw
    (Q .r (x0::x1::(.bool false)::x3::x4::x5::x6::x7::x8::x9::aA::aB::aC::aD::aE::aF::x3::p0::p1::p2::p3::aL::aM::p4::p5::x3::p6::p7::p8::p9::pA::pA::pC::pF::pH::pK::pN::pQ::pT::pW::pY::pY::pa::pd::pf::pi::pl::po::pr::pu::pw::z) pv)
    (bd (binV .add x3 (.int .i64 1)) fun px=>
    Q .n (x0::x1::x2::px::x4::x5::x6::x7::x8::x9::aA::aB::aC::aD::aE::aF::x3::p0::p1::p2::p3::x3::px::p4::p5::x3::p6::p7::p8::p9::pA::pA::pC::pF::pH::pK::pN::pQ::pT::pW::pY::pY::pa::pd::pf::pi::pl::po::pr::pu::pw::z) pv))
   (Q (.e 0) (x0::x1::x2::x3::x4::x5::x6::x7::x8::x9::aA::aB::aC::aD::aE::aF::x3::p0::p1::p2::p3::aL::aM::aN::aO::aP::aQ::aR::aS::aT::aU::aV::aW::aX::aY::aZ::cA::cB::cC::cD::cE::cF::cG::cH::cI::cJ::cK::cL::cM::cN::cO::z) H)) := by kernel_rfl
def Sb11_0 (I : Nat → V → V → Heap → Prop) : Nat → List V → Heap → Prop := fun i ts H => ts.length = 98 ∧ I i (ts.getD 1 undefV) (ts.getD 3 undefV) H
@[simp] theorem Sb11_0_eq {I : Nat → V → V → Heap → Prop} {i : Nat} : Sb11_0 I i (x0::x1::x2::x3::x4::x5::x6::x7::x8::x9::aA::aB::aC::aD::aE::aF::aG::aH::aI::aJ::aK::aL::aM::aN::aO::aP::aQ::aR::aS::aT::aU::aV::aW::aX::aY::aZ::cA::cB::cC::cD::cE::cF::cG::cH::cI::cJ::cK::cL::cM::cN::cO::cP::cQ::cR::cS::cT::cU::cV::cW::cX::cY::cZ::dA::dB::dC::dD::dE::dF::dG::dH::dI::dJ::dK::dL::dM::dN::dO::dP::dQ::dR::dS::dT::dU::dV::dW::dX::dY::dZ::eA::eB::eC::eD::eE::eF::eG::eH::eI::eJ::[]) H = I i x1 x3 H := propext ⟨fun h => h.2,fun h => ⟨rfl,h⟩⟩
theorem ub11_0 (M : Nat) (I : Nat → V → V → Heap → Prop) (step : ∀ i,i ≤ M → ∀ (x1 x3 : V) (H : Heap),I i x1 x3 H → ∀ (x0 x2 x4 x5 x6 x7 x8 x9 aA aB aC aD aE aF aG aH aI aJ aK aL aM aN aO aP aQ aR aS aT aU aV aW aX aY aZ cA cB cC cD cE cF cG cH cI cJ cK cL cM cN cO cP cQ cR cS cT cU cV cW cX cY cZ dA dB dC dD dE dF dG dH dI dJ dK dL dM dN dO dP dQ dR dS dT dU dV dW dX dY dZ eA eB eC eD eE eF eG eH eI eJ : V),wp G b11_0 (x0::x1::x2::x3::x4::x5::x6::x7::x8::x9::aA::aB::aC::aD::aE::aF::aG::aH::aI::aJ::aK::aL::aM::aN::aO::aP::aQ::aR::aS::aT::aU::aV::aW::aX::aY::aZ::cA::cB::cC::cD::cE::cF::cG::cH::cI::cJ::cK::cL::cM::cN::cO::cP::cQ::cR::cS::cT::cU::cV::cW::cX::cY::cZ::dA::dB::dC::dD::dE::dF::dG::dH::dI::dJ::dK::dL::dM::dN::dO::dP::dQ::dR::dS::dT::dU::dV::dW::dX::dY::dZ::eA::eB::eC::eD::eE::eF::eG::eH::eI::eJ::[]) H (upQ M (Sb11_0 I) i Q)) (i : Nat) (hi : i ≤ M) (h : I i x1 x3 H) : Lp G b11_0 (x0::x1::x2::x3::x4::x5::x6::x7::x8::x9::aA::aB::aC::aD::aE::aF::aG::aH::aI::aJ::aK::aL::aM::aN::aO::aP::aQ::aR::aS::aT::aU::aV::aW::aX::aY::aZ::cA::cB::cC::cD::cE::cF::cG::cH::cI::cJ::cK::cL::cM::cN::cO::cP::cQ::cR::cS::cT::cU::cV::cW::cX::cY::cZ::dA::dB::dC::dD::dE::dF::dG::dH::dI::dJ::dK::dL::dM::dN::dO::dP::dQ::dR::dS::dT::dU::dV::dW::dX::dY::dZ::eA::eB::eC::eD::eE::eF::eG::eH::eI::eJ::[]) H Q :=
  Lp.up (S := Sb11_0 I) (fun i t H hi hS => (congrArg (fun t => wp G b11_0 t H (upQ M (Sb11_0 I) i Q)) (tabF_eq hS.1)).mpr (step i hi _ _ H hS.2 ..)) _ i _ H rfl hi ⟨rfl,h⟩
theorem wr11_1 : wp G r11_1 (x0::x1::x2::x3::x4::z) H Q = (
  Lp G b11_2 (x0::x1::x2::x3::(.int .i64 0)::z) H (blockQ 2 (seqQ G r11_5 Q))) := by kernel_rfl
theorem wb11_2 : wp G b11_2 (x0::x1::x2::x3::x4::x5::x6::x7::x8::x9::aA::aB::aC::aD::aE::aF::aG::aH::aI::aJ::aK::aL::aM::aN::aO::aP::aQ::aR::aS::aT::aU::aV::aW::aX::aY::aZ::cA::cB::cC::cD::cE::cF::cG::cH::cI::cJ::cK::cL::cM::cN::cO::cP::cQ::cR::cS::cT::cU::cV::cW::cX::cY::cZ::dA::dB::dC::dD::dE::dF::dG::dH::dI::dJ::dK::dL::dM::dN::z) H Q = (
  bd (fadrV 1 x1) fun p0=>
  bd (ldV H p0 1 false) fun p1=>
  bd (lensV p1) fun p2=>
  bd (binV .lss x4 p2) fun p3=>
  ifB p3
   (bd (fadrV 1 x1) fun p4=>
   bd (ldV H p4 1 false) fun p5=>
   bd (iadrV 2 p5 x4) fun p6=>
   bd (fadrV 1 p6) fun p7=>
   bd (ldV H p7 1 false) fun p8=>
   bd (lensV p8) fun p9=>
   bd (binV .gtr p9 (.int .i64 5)) fun pA=>
   wpg (gdV pA false) H (fun k => bd (fadrV 1 x1) fun pB => k pB H) fun pC pD=>
   wpg (gdV pA false) pD (fun k => bd (ldV pD pC 1 false) fun pE => k pE pD) fun pF pG=>
   wpg (gdV pA false) pG (fun k => k x4 pG) fun pH pI=>
   wpg (gdV pA false) pI (fun k => bd (iadrV 2 pF pH) fun pJ => k pJ pI) fun pK pL=>
   wpg (gdV pA false) pL (fun k => bd (fadrV 0 pK) fun pM => k pM pL) fun pN pO=>
   wpg (gdV pA false) pO (fun k => bd (ldV pO pN 1 false) fun pP => k pP pO) fun pQ pR=>
   wpg (gdV pA false) pR (fun k => bd (lentV pQ) fun pS => k pS pR) fun pT pU=>
   wpg (gdV pA false) pU (fun k => bd (binV .gtr pT (.int .i64 50)) fun pV => k pV pU) fun pW pX=>
   bd (pickV pA (.bool true) pW) fun pY=>
   ifB pY
    (Q .r (x0::x1::(.bool false)::x3::x4::x5::x6::x7::x8::x9::aA::aB::aC::aD::aE::aF::aG::aH::aI::aJ::aK::aL::aM::aN::aO::aP::aQ::aR::aS::aT::aU::aV::aW::aX::aY::aZ::cA::cB::cC::cD::cE::cF::cG::cH::cI::cJ::cK::cL::cM::cN::cO::x4::p0::p1::p2::p3::cU::cV::p4::p5::x4::p6::p7::p8::p9::pA::pA::pC::pF::pH::pK::pN::pQ::pT::pW::pY::z) pX)
    (Lp G b11_3 (x0::x1::x2::x3::x4::(.int .i64 0)::x6::x7::x8::x9::aA::aB::aC::aD::aE::aF::aG::aH::aI::aJ::aK::aL::aM::aN::aO::aP::aQ::aR::aS::aT::aU::aV::aW::aX::aY::aZ::cA::cB::cC::cD::cE::cF::cG::cH::cI::cJ::cK::cL::cM::cN::cO::x4::p0::p1::p2::p3::cU::cV::p4::p5::x4::p6::p7::p8::p9::pA::pA::pC::pF::pH::pK::pN::pQ::pT::pW::pY::z) pX (blockQ 4 (blockQ 3 (seqQ G r11_4 Q)))))
   (Q (.e 2) (x0::x1::x2::x3::x4::x5::x6::x7::x8::x9::aA::aB::aC::aD::aE::aF::aG::aH::aI::aJ::aK::aL::aM::aN::aO::aP::aQ::aR::aS::aT::aU::aV::aW::aX::aY::aZ::cA::cB::cC::cD::cE::cF::cG::cH::cI::cJ::cK::cL::cM::cN::cO::x4::p0::p1::p2::p3::cU::cV::cW::cX::cY::cZ::dA::dB::dC::dD::dE::dF::dG::dH::dI::dJ::dK::dL::dM::dN::z) H)) := by kernel_rfl
def Sb11_2 (I : Nat → V → V → Heap → Prop) : Nat → List V → Heap → Prop := fun i ts H => ts.length = 98 ∧ I i (ts.getD 1 undefV) (ts.getD 4 undefV) H
@[simp] theorem Sb11_2_eq {I : Nat → V → V → Heap → Prop} {i : Nat} : Sb11_2 I i (x0::x1::x2::x3::x4::x5::x6::x7::x8::x9::aA::aB::aC::aD::aE::aF::aG::aH::aI::aJ::aK::aL::aM::aN::aO::aP::aQ::aR::aS::aT::aU::aV::aW::aX::aY::aZ::cA::cB::cC::cD::cE::cF::cG::cH::cI::cJ::cK::cL::cM::cN::cO::cP::cQ::cR::cS::cT::cU::cV::cW::cX::cY::cZ::dA::dB::dC::dD::dE::dF::dG::dH::dI::dJ::dK::dL::dM::dN::dO::dP::dQ::dR::dS::dT::dU::dV::dW::dX::dY::dZ::eA::eB::eC::eD::eE::eF::eG::eH::eI::eJ::[]) H = I i x1 x4 H := propext ⟨fun h => h.2,fun h => ⟨rfl,h⟩⟩
theorem ub11_2 (M : Nat) (I : Nat → V → V → Heap → Prop) (step : ∀ i,i ≤ M → ∀ (x1 x4 : V) (H : Heap),I i x1 x4 H → ∀ (x0 x2 x3 x5 x6 x7 x8 x9 aA aB aC aD aE aF aG aH aI aJ aK aL aM aN aO aP aQ aR aS aT aU aV aW aX aY aZ cA cB cC cD cE cF cG cH cI cJ cK cL cM cN cO cP cQ cR cS cT cU cV cW cX cY cZ dA dB dC dD dE dF dG dH dI dJ dK dL dM dN dO dP dQ dR dS dT dU dV dW dX dY dZ eA eB eC eD eE eF eG eH eI eJ : V),wp G b11_2 (x0::x1::x2::x3::x4::x5::x6::x7::x8::x9::aA::aB::aC::aD::aE::aF::aG::aH::aI::aJ::aK::aL::aM::aN::aO::aP::aQ::aR::aS::aT::aU::aV::aW::aX::aY::aZ::cA::cB::cC::cD::cE::cF::cG::cH::cI::cJ::cK::cL::cM::cN::cO::cP::cQ::cR::cS::cT::cU::cV::cW::cX::cY::cZ::dA::dB::dC::dD::dE::dF::dG::dH::dI::dJ::dK::dL::dM::dN::dO::dP::dQ::dR::dS::dT::dU::dV::dW::dX::dY::dZ::eA::eB::eC::eD::eE::eF::eG::eH::eI::eJ::[]) H (upQ M (Sb11_2 I) i Q)) (i : Nat) (hi : i ≤ M) (h : I i x1 x4 H) : Lp G b11_2 (x0::x1::x2::x3::x4::x5::x6::x7::x8::x9::aA::aB::aC::aD::aE::aF::aG::aH::aI::aJ::aK::aL::aM::aN::aO::aP::aQ::aR::aS::aT::aU::aV::aW::aX::aY::aZ::cA::cB::cC::cD::cE::cF::cG::cH::cI::cJ::cK::cL::cM::cN::cO::cP::cQ::cR::cS::cT::cU::cV::cW::cX::cY::cZ::dA::dB::dC::dD::dE::dF::dG::dH::dI::dJ::dK::dL::dM::dN::dO::dP::dQ::dR::dS::dT::dU::dV::dW::dX::dY::dZ::eA::eB::eC::eD::eE::eF::eG::eH::eI::eJ::[]) H Q :=
  Lp.up (S := Sb11_2 I) (fun i t H hi hS => (congrArg (fun t => wp G b11_2 t H (upQ M (Sb11_2 I) i Q)) (tabF_eq hS.1)).mpr (step i hi _ _ H hS.2 ..)) _ i _ H rfl hi ⟨rfl,h⟩
theorem wb11_3 : wp G b11_3 (x0::x1::x2::x3::x4::x5::x6::x7::x8::x9::aA::aB::aC::aD::aE::aF::aG::aH::aI::aJ::aK::aL::aM::aN::aO::aP::aQ::aR::aS::aT::aU::aV::aW::aX::aY::aZ::cA::cB::cC::cD::cE::cF::cG::cH::cI::cJ::cK::cL::cM::cN::cO::cP::cQ::cR::cS::cT::cU::cV::cW::cX::cY::cZ::dA::dB::dC::dD::dE::dF::dG::dH::dI::dJ::dK::dL::dM::dN::dO::dP::dQ::dR::dS::dT::dU::dV::dW::dX::dY::dZ::eA::eB::eC::eD::eE::eF::eG::eH::eI::eJ::[]) H Q = (
  bd (fadrV 1 x1) fun p0=>
  bd (ldV H p0 1 false) fun p1=>
  bd (iadrV 2 p1 x4) fun p2=>
  bd (fadrV 1 p2) fun p3=>
  bd (ldV H p3 1 false) fun p4=>
  bd (lensV p4) fun p5=>
  bd (binV .lss x5 p5) fun p6=>
  ifB p6
   (bd (fadrV 1 x1) fun p7=>
   bd (ldV H p7 1 false) fun p8=>
   bd (iadrV 2 p8 x4) fun p9=>
   bd (fadrV 1 p9) fun pA=>
   bd (ldV H pA 1 false) fun pB=>
   bd (iadrV 1 pB x5) fun pC=>
   bd (ldV H pC 1 false) fun pD=>
   bd (lentV pD) fun pE=>
   bd (binV .gtr pE (.int .i64 50)) fun pF=>
   ifB pF
    (Q .r (x0::x1::(.bool false)::x3::x4::x5::x6::x7::x8::x9::aA::aB::aC::aD::aE::aF::aG::aH::aI::aJ::aK::aL::aM::aN::aO::aP::aQ::aR::aS::aT::aU::aV::aW::aX::aY::aZ::cA::cB::cC::cD::cE::cF::cG::cH::cI::cJ::cK::cL::cM::cN::cO::cP::cQ::cR::cS::cT::cU::cV::cW::cX::cY::cZ::dA::dB::dC::dD::dE::dF::dG::dH::dI::dJ::dK::dL::dM::dN::x5::p0::p1::x4::p2::p3::p4::p5::p6::dX::dY::p7::p8::x4::p9::pA::pB::x5::pC::pD::pE::pF::[]) H)
    (bd (binV .add x5 (.int .i64 1)) fun pG=>
    Q .n (x0::x1::x2::x3::x4::pG::x6::x7::x8::x9::aA::aB::aC::aD::aE::aF::aG::aH::aI::aJ::aK::aL::aM::aN::aO::aP::aQ::aR::aS::aT::aU::aV::aW::aX::aY::aZ::cA::cB::cC::cD::cE::cF::cG::cH::cI::cJ::cK::cL::cM::cN::cO::cP::cQ::cR::cS::cT::cU::cV::cW::cX::cY::cZ::dA::dB::dC::dD::dE::dF::dG::dH::dI::dJ::dK::dL::dM::dN::x5::p0::p1::x4::p2::p3::p4::p5::p6::x5::pG::p7::p8::x4::p9::pA::pB::x5::pC::pD::pE::pF::[]) H))
   (Q (.e 4) (x0::x1::x2::x3::x4::x5::x6::x7::x8::x9::aA::aB::aC::aD::aE::aF::aG::aH::aI::aJ::aK::aL::aM::aN::aO::aP::aQ::aR::aS::aT::aU::aV::aW::aX::aY::aZ::cA::cB::cC::cD::cE::cF::cG::cH::cI::cJ::cK::cL::cM::cN::cO::cP::cQ::cR::cS::cT::cU::cV::cW::cX::cY::cZ::dA::dB::dC::dD::dE::dF::dG::dH::dI::dJ::dK::dL::dM::dN::x5::p0::p1::x4::p2::p3::p4::p5::p6::dX::dY::dZ::eA::eB::eC::eD::eE::eF::eG::eH::eI::eJ::[]) H)) := by kernel_rfl
def Sb11_3 (I : Nat → V → V → V → Heap → Prop) : Nat → List V → Heap → Prop := fun i ts H => ts.length = 98 ∧ I i (ts.getD 1 undefV) (ts.getD 4 undefV) (ts.getD 5 undefV) H
@[simp] theorem Sb11_3_eq {I : Nat → V → V → V → Heap → Prop} {i : Nat} : Sb11_3 I i (x0::x1::x2::x3::x4::x5::x6::x7::x8::x9::aA::aB::aC::aD::aE::aF::aG::aH::aI::aJ::aK::aL::aM::aN::aO::aP::aQ::aR::aS::aT::aU::aV::aW::aX::aY::aZ::cA::cB::cC::cD::cE::cF::cG::cH::cI::cJ::cK::cL::cM::cN::cO::cP::cQ::cR::cS::cT::cU::cV::cW::cX::cY::cZ::dA::dB::dC::dD::dE::dF::dG::dH::dI::dJ::dK::dL::dM::dN::dO::dP::dQ::dR::dS::dT::dU::dV::dW::dX::dY::dZ::eA::eB::eC::eD::eE::eF::eG::eH::eI::eJ::[]) H = I i x1 x4 x5 H := propext ⟨fun h => h.2,fun h => ⟨rfl,h⟩⟩
theorem ub11_3 (M : Nat) (I : Nat → V → V → V → Heap → Prop) (step : ∀ i,i ≤ M → ∀ (x1 x4 x5 : V) (H : Heap),I i x1 x4 x5 H → ∀ (x0 x2 x3 x6 x7 x8 x9 aA aB aC aD aE aF aG aH aI aJ aK aL aM aN aO aP aQ aR aS aT aU aV aW aX aY aZ cA cB cC cD cE cF cG cH cI cJ cK cL cM cN cO cP cQ cR cS cT cU cV cW cX cY cZ dA dB dC dD dE dF dG dH dI dJ dK dL dM dN dO dP dQ dR dS dT dU dV dW dX dY dZ eA eB eC eD eE eF eG eH eI eJ : V),wp G b11_3 (x0::x1::x2::x3::x4::x5::x6::x7::x8::x9::aA::aB::aC::aD::aE::aF::aG::aH::aI::aJ::aK::aL::aM::aN::aO::aP::aQ::aR::aS::aT::aU::aV::aW::aX::aY::aZ::cA::cB::cC::cD::cE::cF::cG::cH::cI::cJ::cK::cL::cM::cN::cO::cP::cQ::cR::cS::cT::cU::cV::cW::cX::cY::cZ::dA::dB::dC::dD::dE::dF::dG::dH::dI::dJ::dK::dL::dM::dN::dO::dP::dQ::dR::dS::dT::dU::dV::dW::dX::dY::dZ::eA::eB::eC::eD::eE::eF::eG::eH::eI::eJ::[]) H (upQ M (Sb11_3 I) i Q)) (i : Nat) (hi : i ≤ M) (h : I i x1 x4 x5 H) : Lp G b11_3 (x0::x1::x2::x3::x4::x5::x6::x7::x8::x9::aA::aB::aC::aD::aE::aF::aG::aH::aI::aJ::aK::aL::aM::aN::aO::aP::aQ::aR::aS::aT::aU::aV::aW::aX::aY::aZ::cA::cB::cC::cD::cE::cF::cG::cH::cI::cJ::cK::cL::cM::cN::cO::cP::cQ::cR::cS::cT::cU::cV::cW::cX::cY::cZ::dA::dB::dC::dD::dE::dF::dG::dH::dI::dJ::dK::dL::dM::dN::dO::dP::dQ::dR::dS::dT::dU::dV::dW::dX::dY::dZ::eA::eB::eC::eD::eE::eF::eG::eH::eI::eJ::[]) H Q :=
  Lp.up (S := Sb11_3 I) (fun i t H hi hS => (congrArg (fun t => wp G b11_3 t H (upQ M (Sb11_3 I) i Q)) (tabF_eq hS.1)).mpr (step i hi _ _ _ H hS.2 ..)) _ i _ H rfl hi ⟨rfl,h⟩
theorem wr11_4 : wp G r11_4 (x0::x1::x2::x3::x4::x5::x6::x7::x8::x9::aA::aB::aC::aD::aE::aF::aG::aH::aI::aJ::aK::aL::aM::aN::aO::aP::aQ::aR::aS::aT::aU::aV::aW::aX::aY::aZ::cA::cB::cC::cD::cE::cF::cG::cH::cI::cJ::cK::cL::cM::cN::cO::cP::cQ::cR::cS::cT::cU::cV::z) H Q = (
  bd (binV .add x4 (.int .i64 1)) fun p0=>
  Q .n (x0::x1::x2::x3::p0::x5::x6::x7::x8::x9::aA::aB::aC::aD::aE::aF::aG::aH::aI::aJ::aK::aL::aM::aN::aO::aP::aQ::aR::aS::aT::aU::aV::aW::aX::aY::aZ::cA::cB::cC::cD::cE::cF::cG::cH::cI::cJ::cK::cL::cM::cN::cO::cP::cQ::cR::cS::cT::x4::p0::z) H) := by kernel_rfl
theorem wr11_5 : wp G r11_5 (x0::x1::x2::z) H Q = (
  Q .r (x0::x1::(.bool true)::z) H) := by kernel_rfl
theorem w12 : runW G i12 [x0,x1] H k = (
  bd (bxrV x0) fun p0=>
  bd (bxrV x1) fun p1=>
  bd (fadrV 0 p0) fun p2=>
  bd (ldV H p2 1 false) fun p3=>
  bd (fadrV 0 p1) fun p4=>
  bd (ldV H p4 1 false) fun p5=>
  (true || G.pur 31) = true ∧ Cl G 31 [p3,p5,(.fn 32 [])] H fun p6 p7=>
  wpg (gdV p6 true) p7 (fun k => bd (fadrV 1 p0) fun p8 => k p8 p7) fun p9 pA=>
  wpg (gdV p6 true) pA (fun k => bd (ldV pA p9 1 false) fun pB => k pB pA) fun pC pD=>
  wpg (gdV p6 true) pD (fun k => bd (fadrV 1 p1) fun pE => k pE pD) fun pF pG=>
  wpg (gdV p6 true) pG (fun k => bd (ldV pG pF 1 false) fun pH => k pH pG) fun pI pJ=>
  wpg (gdV p6 true) pJ (fun k => (true || G.pur 34) = true ∧ Cl G 34 [pC,pI,(.fn 35 [])] pJ fun pK pL => k pK pL) fun pM pN=>
  bd (pickV p6 pM (.bool false)) fun pO=>
  k pO pN) := by kernel_rfl
theorem w19 : runW G i19 [x0,x1] H k = (
  bd (lensV x0) fun p0=>
  bd (lensV x1) fun p1=>
  bd (binV .neq p0 p1) fun p2=>
  ifB p2
   (k (.bool false) H)
   (Lp G b19_0 [x0,x1,undefV,undefV,(.bool false),(.int .i64 0),x0,p0,x1,p1,p2,undefV,undefV,undefV,undefV,undefV,undefV,undefV,undefV,undefV,undefV,undefV,undefV,undefV,undefV,undefV] H (blockQ 0 (seqQ G r19_1 (retQ i19 k))))) := by kernel_rfl
@[simp] theorem ret19 : retQ i19 k .r (x0::x1::x2::x3::x4::z) H = k x4 H := nrfl
theorem wb19_0 : wp G b19_0 [x0,x1,x2,x3,x4,x5,x6,x7,x8,x9,aA,aB,aC,aD,aE,aF,aG,aH,aI,aJ,aK,aL,aM,aN,aO,aP] H Q = (
  bd (lensV x0) fun p0=>
  bd (binV .lss x5 p0) fun p1=>
  ifB p1
   (bd (iadrV 1 x0 x5) fun p2=>
   bd (ldV H p2 1 false) fun p3=>
   bd (iadrV 1 x1 x5) fun p4=>
   bd (ldV H p4 1 false) fun p5=>
   bd (binV .neq p3 p5) fun p6=>
   ifB p6
    (Q .r [x0,x1,x2,x3,(.bool false),x5,x6,x7,x8,x9,aA,x5,x0,p0,p1,aF,aG,x0,x5,p2,p3,x1,x5,p4,p5,p6] H)
    (bd (binV .add x5 (.int .i64 1)) fun p7=>
    Q .n [x0,x1,x2,x3,x4,p7,x6,x7,x8,x9,aA,x5,x0,p0,p1,x5,p7,x0,x5,p2,p3,x1,x5,p4,p5,p6] H))
   (Q (.e 0) [x0,x1,x2,x3,x4,x5,x6,x7,x8,x9,aA,x5,x0,p0,p1,aF,aG,aH,aI,aJ,aK,aL,aM,aN,aO,aP] H)) := by kernel_rfl
def Sb19_0 (I : Nat → V → V → V → Heap → Prop) : Nat → List V → Heap → Prop := fun i ts H => ts.length = 26 ∧ I i (ts.getD 0 undefV) (ts.getD 1 undefV) (ts.getD 5 undefV) H
@[simp] theorem Sb19_0_eq {I : Nat → V → V → V → Heap → Prop} {i : Nat} : Sb19_0 I i [x0,x1,x2,x3,x4,x5,x6,x7,x8,x9,aA,aB,aC,aD,aE,aF,aG,aH,aI,aJ,aK,aL,aM,aN,aO,aP] H = I i x0 x1 x5 H := propext ⟨fun h => h.2,fun h => ⟨rfl,h⟩⟩
theorem ub19_0 (M : Nat) (I : Nat → V → V → V → Heap → Prop) (step : ∀ i,i ≤ M → ∀ (x0 x1 x5 : V) (H : Heap),I i x0 x1 x5 H → ∀ (x2 x3 x4 x6 x7 x8 x9 aA aB aC aD aE aF aG aH aI aJ aK aL aM aN aO aP : V),wp G b19_0 [x0,x1,x2,x3,x4,x5,x6,x7,x8,x9,aA,aB,aC,aD,aE,aF,aG,aH,aI,aJ,aK,aL,aM,aN,aO,aP] H (upQ M (Sb19_0 I) i Q)) (i : Nat) (hi : i ≤ M) (h : I i x0 x1 x5 H) : Lp G b19_0 [x0,x1,x2,x3,x4,x5,x6,x7,x8,x9,aA,aB,aC,aD,aE,aF,aG,aH,aI,aJ,aK,aL,aM,aN,aO,aP] H Q :=
  Lp.up (S := Sb19_0 I) (fun i t H hi hS => (congrArg (fun t => wp G b19_0 t H (upQ M (Sb19_0 I) i Q)) (tabF_eq hS.1)).mpr (step i hi _ _ _ H hS.2 ..)) _ i _ H rfl hi ⟨rfl,h⟩
theorem wr19_1 : wp G r19_1 (x0::x1::x2::x3::x4::z) H Q = (
  Q .r (x0::x1::x2::x3::(.bool true)::z) H) := by kernel_rfl
theorem w22 : runW G i22 [x0,x1] H k = (
  Lp G b22_0 [x0,x1,undefV,undefV,(.bool false),(.int .i64 0),undefV,undefV,undefV,undefV,undefV,undefV,undefV,undefV,undefV,undefV,undefV,undefV] H (blockQ 0 (seqQ G r22_1 (retQ i22 k)))) := by kernel_rfl
@[simp] theorem ret22 : retQ i22 k .r (x0::x1::x2::x3::x4::z) H = k x4 H := nrfl
theorem wb22_0 : wp G b22_0 [x0,x1,x2,x3,x4,x5,x6,x7,x8,x9,aA,aB,aC,aD,aE,aF,aG,aH] H Q = (
  bd (lensV x0) fun p0=>
  bd (binV .lss x5 p0) fun p1=>
  ifB p1
   (bd (iadrV 1 x0 x5) fun p2=>
   bd (ldV H p2 1 false) fun p3=>
   bd (binV .eql p3 x1) fun p4=>
   ifB p4
    (Q .r [x0,x1,x2,x3,(.bool true),x5,x5,x0,p0,p1,aA,aB,x0,x5,p2,p3,x1,p4] H)
    (bd (binV .add x5 (.int .i64 1)) fun p5=>
    Q .n [x0,x1,x2,x3,x4,p5,x5,x0,p0,p1,x5,p5,x0,x5,p2,p3,x1,p4] H))
   (Q (.e 0) [x0,x1,x2,x3,x4,x5,x5,x0,p0,p1,aA,aB,aC,aD,aE,aF,aG,aH] H)) := by kernel_rfl
def Sb22_0 (I : Nat → V → V → V → Heap → Prop) : Nat → List V → Heap → Prop := fun i ts H => ts.length = 18 ∧ I i (ts.getD 0 undefV) (ts.getD 1 undefV) (ts.getD 5 undefV) H
@[simp] theorem Sb22_0_eq {I : Nat → V → V → V → Heap → Prop} {i : Nat} : Sb22_0 I i [x0,x1,x2,x3,x4,x5,x6,x7,x8,x9,aA,aB,aC,aD,aE,aF,aG,aH] H = I i x0 x1 x5 H := propext ⟨fun h => h.2,fun h => ⟨rfl,h⟩⟩
theorem ub22_0 (M : Nat) (I : Nat → V → V → V → Heap → Prop) (step : ∀ i,i ≤ M → ∀ (x0 x1 x5 : V) (H : Heap),I i x0 x1 x5 H → ∀ (x2 x3 x4 x6 x7 x8 x9 aA aB aC aD aE aF aG aH : V),wp G b22_0 [x0,x1,x2,x3,x4,x5,x6,x7,x8,x9,aA,aB,aC,aD,aE,aF,aG,aH] H (upQ M (Sb22_0 I) i Q)) (i : Nat) (hi : i ≤ M) (h : I i x0 x1 x5 H) : Lp G b22_0 [x0,x1,x2,x3,x4,x5,x6,x7,x8,x9,aA,aB,aC,aD,aE,aF,aG,aH] H Q :=
  Lp.up (S := Sb22_0 I) (fun i t H hi hS => (congrArg (fun t => wp G b22_0 t H (upQ M (Sb22_0 I) i Q)) (tabF_eq hS.1)).mpr (step i hi _ _ _ H hS.2 ..)) _ i _ H rfl hi ⟨rfl,h⟩
theorem wr22_1 : wp G r22_1 (x0::x1::x2::x3::x4::z) H Q = (
  Q .r (x0::x1::x2::x3::(.bool false)::z) H) := by kernel_rfl
theorem w31 : runW G i31 [x0,x1,x2] H k = (
  bd (lensV x0) fun p0=>
  bd (lensV x1) fun p1=>
  bd (binV .neq p0 p1) fun p2=>
  ifB p2
   (k (.bool false) H)
   (bd (lensV x0) fun p3=>
   Lp G b31_0 [x0,x1,x2,undefV,undefV,undefV,(.bool false),undefV,undefV,undefV,x0,p0,x1,p1,p2,x0,p3,(.int .i64 0),undefV,undefV,undefV,undefV,undefV,undefV,undefV,undefV,undefV,undefV,undefV,undefV,undefV,undefV] H (blockQ 0 (seqQ G r31_1 (retQ i31 k))))) := by kernel_rfl
@[simp] theorem ret31 : retQ i31 k .r (x0::x1::x2::x3::x4::x5::x6::z) H = k x6 H := nrfl
theorem wb31_0 : wp G b31_0 [x0,x1,x2,x3,x4,x5,x6,x7,x8,x9,aA,aB,aC,aD,aE,aF,aG,aH,aI,aJ,aK,aL,aM,aN,aO,aP,aQ,aR,aS,aT,aU,aV] H Q = (
  bd (binV .lss aH aG) fun p0=>
  ifB p0
   (bd (iadrV 4 aF aH) fun p1=>
   bd (ldV H p1 4 true) fun p2=>
   newB H (.cells [(.str []),(.int .i64 0),(.str []),.nils]) fun p3 p4=>
   true = true ∧ bd (stV p4 4 p3 p2) fun p5=>
   bd (iadrV 4 x1 aH) fun p6=>
   bd (ldV p5 p6 4 true) fun p7=>
   newB p5 (.cells [(.str []),(.int .i64 0),(.str []),.nils]) fun p8 p9=>
   true = true ∧ bd (stV p9 4 p8 p7) fun pA=>
   bd (ldV pA p3 4 true) fun pB=>
   bd (ldV pA p8 4 true) fun pC=>
   bd (callV x2) fun c => (true || G.pur c.1) = true ∧ Cl G c.1 ([pB,pC] ++ c.2) pA fun pD pE=>
   bd (unV .not pD) fun pF=>
   ifB pF
    (Q .r [x0,x1,x2,x3,x4,x5,(.bool false),aH,p3,p8,aA,aB,aC,aD,aE,aF,aG,aH,p0,aH,p1,p2,x1,aH,p6,p7,x2,pB,pC,pD,pF,aV] pE)
    (bd (binV .add aH (.int .i64 1)) fun pG=>
    Q .n [x0,x1,x2,x3,x4,x5,x6,aH,p3,p8,aA,aB,aC,aD,aE,aF,aG,pG,p0,aH,p1,p2,x1,aH,p6,p7,x2,pB,pC,pD,pF,pG] pE))
   (Q (.e 0) [x0,x1,x2,x3,x4,x5,x6,x7,x8,x9,aA,aB,aC,aD,aE,aF,aG,aH,p0,aJ,aK,aL,aM,aN,aO,aP,aQ,aR,aS,aT,aU,aV] H)) := by kernel_rfl
def Sb31_0 (I : Nat → V → V → V → V → V → Heap → Prop) : Nat → List V → Heap → Prop := fun i ts H => ts.length = 32 ∧ I i (ts.getD 1 undefV) (ts.getD 2 undefV) (ts.getD 15 undefV) (ts.getD 16 undefV) (ts.getD 17 undefV) H
@[simp] theorem Sb31_0_eq {I : Nat → V → V → V → V → V → Heap → Prop} {i : Nat} : Sb31_0 I i [x0,x1,x2,x3,x4,x5,x6,x7,x8,x9,aA,aB,aC,aD,aE,aF,aG,aH,aI,aJ,aK,aL,aM,aN,aO,aP,aQ,aR,aS,aT,aU,aV] H = I i x1 x2 aF aG aH H := propext ⟨fun h => h.2,fun h => ⟨rfl,h⟩⟩
theorem ub31_0 (M : Nat) (I : Nat → V → V → V → V → V → Heap → Prop) (step : ∀ i,i ≤ M → ∀ (x1 x2 aF aG aH : V) (H : Heap),I i x1 x2 aF aG aH H → ∀ (x0 x3 x4 x5 x6 x7 x8 x9 aA aB aC aD aE aI aJ aK aL aM aN aO aP aQ aR aS aT aU aV : V),wp G b31_0 [x0,x1,x2,x3,x4,x5,x6,x7,x8,x9,aA,aB,aC,aD,aE,aF,aG,aH,aI,aJ,aK,aL,aM,aN,aO,aP,aQ,aR,aS,aT,aU,aV] H (upQ M (Sb31_0 I) i Q)) (i : Nat) (hi : i ≤ M) (h : I i x1 x2 aF aG aH H) : Lp G b31_0 [x0,x1,x2,x3,x4,x5,x6,x7,x8,x9,aA,aB,aC,aD,aE,aF,aG,aH,aI,aJ,aK,aL,aM,aN,aO,aP,aQ,aR,aS,aT,aU,aV] H Q :=
  Lp.up (S := Sb31_0 I) (fun i t H hi hS => (congrArg (fun t => wp G b31_0 t H (upQ M (Sb31_0 I) i Q)) (tabF_eq hS.1)).mpr (step i hi _ _ _ _ _ H hS.2 ..)) _ i _ H rfl hi ⟨rfl,h⟩
theorem wr31_1 : wp G r31_1 (x0::x1::x2::x3::x4::x5::x6::z) H Q = (
  Q .r (x0::x1::x2::x3::x4::x5::(.bool true)::z) H) := by kernel_rfl
theorem w32 : runW G i32 [x0,x1] H k = (
  bd (bxrV x0) fun p0=>
  bd (bxrV x1) fun p1=>
  bd (fadrV 0 p0) fun p2=>
  bd (ldV H p2 1 false) fun p3=>
  bd (fadrV 0 p1) fun p4=>
  bd (ldV H p4 1 false) fun p5=>
  bd (binV .eql p3 p5) fun p6=>
  wpg (gdV p6 true) H (fun k => bd (fadrV 1 p0) fun p7 => k p7 H) fun p8 p9=>
  wpg (gdV p6 true) p9 (fun k => bd (ldV p9 p8 1 false) fun pA => k pA p9) fun pB pC=>
  wpg (gdV p6 true) pC (fun k => bd (fadrV 1 p1) fun pD => k pD pC) fun pE pF=>
  wpg (gdV p6 true) pF (fun k => bd (ldV pF pE 1 false) fun pG => k pG pF) fun pH pI=>
  wpg (gdV p6 true) pI (fun k => bd (binV .eql pB pH) fun pJ => k pJ pI) fun pK pL=>
  bd (pickV p6 pK (.bool false)) fun pM=>
  wpg (gdV pM true) pL (fun k => bd (fadrV 2 p0) fun pN => k pN pL) fun pO pP=>
  wpg (gdV pM true) pP (fun k => bd (ldV pP pO 1 false) fun pQ => k pQ pP) fun pR pS=>
  wpg (gdV pM true) pS (fun k => bd (fadrV 2 p1) fun pT => k pT pS) fun pU pV=>
  wpg (gdV pM true) pV (fun k => bd (ldV pV pU 1 false) fun pW => k pW pV) fun pX pY=>
  wpg (gdV pM true) pY (fun k => bd (binV .eql pR pX) fun pZ => k pZ pY) fun pa pb=>
  bd (pickV pM pa (.bool false)) fun pc=>
  wpg (gdV pc true) pb (fun k => bd (fadrV 3 p0) fun pd => k pd pb) fun pe pf=>
  wpg (gdV pc true) pf (fun k => bd (ldV pf pe 1 false) fun pg => k pg pf) fun ph pi=>
  wpg (gdV pc true) pi (fun k => bd (fadrV 3 p1) fun pj => k pj pi) fun pk pl=>
  wpg (gdV pc true) pl (fun k => bd (ldV pl pk 1 false) fun pm => k pm pl) fun pn po=>
  wpg (gdV pc true) po (fun k => (true || G.pur 33) = true ∧ Cl G 33 [ph,pn] po fun pp pq => k pp pq) fun pr ps=>
  bd (pickV pc pr (.bool false)) fun pt=>
  k pt ps) := by kernel_rfl
theorem w33 : runW G i33 [x0,x1] H k = (
  bd (lensV x0) fun p0=>
  bd (lensV x1) fun p1=>
  bd (binV .neq p0 p1) fun p2=>
  ifB p2
   (k (.bool false) H)
   (bd (lensV x0) fun p3=>
   Lp G b33_0 [x0,x1,undefV,undefV,(.bool false),undefV,x0,p0,x1,p1,p2,x0,p3,(.int .i64 0),undefV,undefV,undefV,undefV,undefV,undefV,undefV,undefV,undefV,undefV,undefV,undefV] H (blockQ 0 (seqQ G r33_1 (retQ i33 k))))) := by kernel_rfl
@[simp] theorem ret33 : retQ i33 k .r (x0::x1::x2::x3::x4::z) H = k x4 H := nrfl
theorem wb33_0 : wp G b33_0 [x0,x1,x2,x3,x4,x5,x6,x7,x8,x9,aA,aB,aC,aD,aE,aF,aG,aH,aI,aJ,aK,aL,aM,aN,aO,aP] H Q = (
  bd (binV .lss aD aC) fun p0=>
  ifB p0
   (bd (iadrV 1 x0 aD) fun p1=>
   bd (ldV H p1 1 false) fun p2=>
   bd (iadrV 1 x1 aD) fun p3=>
   bd (ldV H p3 1 false) fun p4=>
   bd (binV .neq p2 p4) fun p5=>
   ifB p5
    (Q .r [x0,x1,x2,x3,(.bool false),aD,x6,x7,x8,x9,aA,aB,aC,aD,p0,aD,x0,aD,p1,p2,x1,aD,p3,p4,p5,aP] H)
    (bd (binV .add aD (.int .i64 1)) fun p6=>
    Q .n [x0,x1,x2,x3,x4,aD,x6,x7,x8,x9,aA,aB,aC,p6,p0,aD,x0,aD,p1,p2,x1,aD,p3,p4,p5,p6] H))
   (Q (.e 0) [x0,x1,x2,x3,x4,x5,x6,x7,x8,x9,aA,aB,aC,aD,p0,aF,aG,aH,aI,aJ,aK,aL,aM,aN,aO,aP] H)) := by kernel_rfl
def Sb33_0 (I : Nat → V → V → V → V → Heap → Prop) : Nat → List V → Heap → Prop := fun i ts H => ts.length = 26 ∧ I i (ts.getD 0 undefV) (ts.getD 1 undefV) (ts.getD 12 undefV) (ts.getD 13 undefV) H
@[simp] theorem Sb33_0_eq {I : Nat → V → V → V → V → Heap → Prop} {i : Nat} : Sb33_0 I i [x0,x1,x2,x3,x4,x5,x6,x7,x8,x9,aA,aB,aC,aD,aE,aF,aG,aH,aI,aJ,aK,aL,aM,aN,aO,aP] H = I i x0 x1 aC aD H := propext ⟨fun h => h.2,fun h => ⟨rfl,h⟩⟩
theorem ub33_0 (M : Nat) (I : Nat → V → V → V → V → Heap → Prop) (step : ∀ i,i ≤ M → ∀ (x0 x1 aC aD : V) (H : Heap),I i x0 x1 aC aD H → ∀ (x2 x3 x4 x5 x6 x7 x8 x9 aA aB aE aF aG aH aI aJ aK aL aM aN aO aP : V),wp G b33_0 [x0,x1,x2,x3,x4,x5,x6,x7,x8,x9,aA,aB,aC,aD,aE,aF,aG,aH,aI,aJ,aK,aL,aM,aN,aO,aP] H (upQ M (Sb33_0 I) i Q)) (i : Nat) (hi : i ≤ M) (h : I i x0 x1 aC aD H) : Lp G b33_0 [x0,x1,x2,x3,x4,x5,x6,x7,x8,x9,aA,aB,aC,aD,aE,aF,aG,aH,aI,aJ,aK,aL,aM,aN,aO,aP] H Q :=
  Lp.up (S := Sb33_0 I) (fun i t H hi hS => (congrArg (fun t => wp G b33_0 t H (upQ M (Sb33_0 I) i Q)) (tabF_eq hS.1)).mpr (step i hi _ _ _ _ H hS.2 ..)) _ i _ H rfl hi ⟨rfl,h⟩
theorem wr33_1 : wp G r33_1 (x0::x1::x2::x3::x4::z) H Q = (
  Q .r (x0::x1::x2::x3::(.bool true)::z) H) := by kernel_rfl
theorem w34 : runW G i34 [x0,x1,x2] H k = (
  bd (lensV x0) fun p0=>
  bd (lensV x1) fun p1=>
  bd (binV .neq p0 p1) fun p2=>
  ifB p2
   (k (.bool false) H)
   (bd (lensV x0) fun p3=>
   Lp G b34_0 [x0,x1,x2,undefV,undefV,undefV,(.bool false),undefV,undefV,undefV,x0,p0,x1,p1,p2,x0,p3,(.int .i64 0),undefV,undefV,undefV,undefV,undefV,undefV,undefV,undefV,undefV,undefV,undefV,undefV,undefV,undefV] H (blockQ 0 (seqQ G r34_1 (retQ i34 k))))) := by kernel_rfl
@[simp] theorem ret34 : retQ i34 k .r (x0::x1::x2::x3::x4::x5::x6::z) H = k x6 H := nrfl
theorem wb34_0 : wp G b34_0 [x0,x1,x2,x3,x4,x5,x6,x7,x8,x9,aA,aB,aC,aD,aE,aF,aG,aH,aI,aJ,aK,aL,aM,aN,aO,aP,aQ,aR,aS,aT,aU,aV] H Q = (
  bd (binV .lss aH aG) fun p0=>
  ifB p0
   (bd (iadrV 2 aF aH) fun p1=>
   bd (ldV H p1 2 true) fun p2=>
   newB H (.cells [(.str []),.nils]) fun p3 p4=>
   true = true ∧ bd (stV p4 2 p3 p2) fun p5=>
   bd (iadrV 2 x1 aH) fun p6=>
   bd (ldV p5 p6 2 true) fun p7=>
   newB p5 (.cells [(.str []),.nils]) fun p8 p9=>
   true = true ∧ bd (stV p9 2 p8 p7) fun pA=>
   bd (ldV pA p3 2 true) fun pB=>
   bd (ldV pA p8 2 true) fun pC=>
   bd (callV x2) fun c => (true || G.pur c.1) = true ∧ Cl G c.1 ([pB,pC] ++ c.2) pA fun pD pE=>
   bd (unV .not pD) fun pF=>
   ifB pF
    (Q .r [x0,x1,x2,x3,x4,x5,(.bool false),aH,p3,p8,aA,aB,aC,aD,aE,aF,aG,aH,p0,aH,p1,p2,x1,aH,p6,p7,x2,pB,pC,pD,pF,aV] pE)
    (bd (binV .add aH (.int .i64 1)) fun pG=>
    Q .n [x0,x1,x2,x3,x4,x5,x6,aH,p3,p8,aA,aB,aC,aD,aE,aF,aG,pG,p0,aH,p1,p2,x1,aH,p6,p7,x2,pB,pC,pD,pF,pG] pE))
   (Q (.e 0) [x0,x1,x2,x3,x4,x5,x6,x7,x8,x9,aA,aB,aC,aD,aE,aF,aG,aH,p0,aJ,aK,aL,aM,aN,aO,aP,aQ,aR,aS,aT,aU,aV] H)) := by kernel_rfl
def Sb34_0 (I : Nat → V → V → V → V → V → Heap → Prop) : Nat → List V → Heap → Prop := fun i ts H => ts.length = 32 ∧ I i (ts.getD 1 undefV) (ts.getD 2 undefV) (ts.getD 15 undefV) (ts.getD 16 undefV) (ts.getD 17 undefV) H
@[simp] theorem Sb34_0_eq {I : Nat → V → V → V → V → V → Heap → Prop} {i : Nat} : Sb34_0 I i [x0,x1,x2,x3,x4,x5,x6,x7,x8,x9,aA,aB,aC,aD,aE,aF,aG,aH,aI,aJ,aK,aL,aM,aN,aO,aP,aQ,aR,aS,aT,aU,aV] H = I i x1 x2 aF aG aH H := propext ⟨fun h => h.2,fun h => ⟨rfl,h⟩⟩
theorem ub34_0 (M : Nat) (I : Nat → V → V → V → V → V → Heap → Prop) (step : ∀ i,i ≤ M → ∀ (x1 x2 aF aG aH : V) (H : Heap),I i x1 x2 aF aG aH H → ∀ (x0 x3 x4 x5 x6 x7 x8 x9 aA aB aC aD aE aI aJ aK aL aM aN aO aP aQ aR aS aT aU aV : V),wp G b34_0 [x0,x1,x2,x3,x4,x5,x6,x7,x8,x9,aA,aB,aC,aD,aE,aF,aG,aH,aI,aJ,aK,aL,aM,aN,aO,aP,aQ,aR,aS,aT,aU,aV] H (upQ M (Sb34_0 I) i Q)) (i : Nat) (hi : i ≤ M) (h : I i x1 x2 aF aG aH H) : Lp G b34_0 [x0,x1,x2,x3,x4,x5,x6,x7,x8,x9,aA,aB,aC,aD,aE,aF,aG,aH,aI,aJ,aK,aL,aM,aN,aO,aP,aQ,aR,aS,aT,aU,aV] H Q :=
  Lp.up (S := Sb34_0 I) (fun i t H hi hS => (congrArg (fun t => wp G b34_0 t H (upQ M (Sb34_0 I) i Q)) (tabF_eq hS.1)).mpr (step i hi _ _ _ _ _ H hS.2 ..)) _ i _ H rfl hi ⟨rfl,h⟩
theorem wr34_1 : wp G r34_1 (x0::x1::x2::x3::x4::x5::x6::z) H Q = (
  Q .r (x0::x1::x2::x3::x4::x5::(.bool true)::z) H) := by kernel_rfl
theorem w35 : runW G i35 [x0,x1] H k = (
  bd (bxrV x0) fun p0=>
  bd (bxrV x1) fun p1=>
  bd (fadrV 0 p0) fun p2=>
  bd (ldV H p2 1 false) fun p3=>
  bd (fadrV 0 p1) fun p4=>
  bd (ldV H p4 1 false) fun p5=>
  bd (binV .eql p3 p5) fun p6=>
  wpg (gdV p6 true) H (fun k => bd (fadrV 1 p0) fun p7 => k p7 H) fun p8 p9=>
  wpg (gdV p6 true) p9 (fun k => bd (ldV p9 p8 1 false) fun pA => k pA p9) fun pB pC=>
  wpg (gdV p6 true) pC (fun k => bd (fadrV 1 p1) fun pD => k pD pC) fun pE pF=>
  wpg (gdV p6 true) pF (fun k => bd (ldV pF pE 1 false) fun pG => k pG pF) fun pH pI=>
  wpg (gdV p6 true) pI (fun k => (true || G.pur 36) = true ∧ Cl G 36 [pB,pH] pI fun pJ pK => k pJ pK) fun pL pM=>
  bd (pickV p6 pL (.bool false)) fun pN=>
  k pN pM) := by kernel_rfl
theorem w36 : runW G i36 [x0,x1] H k = (
  bd (lensV x0) fun p0=>
  bd (lensV x1) fun p1=>
  bd (binV .neq p0 p1) fun p2=>
  ifB p2
   (k (.bool false) H)
   (bd (lensV x0) fun p3=>
   Lp G b36_0 [x0,x1,undefV,undefV,(.bool false),undefV,x0,p0,x1,p1,p2,x0,p3,(.int .i64 0),undefV,undefV,undefV,undefV,undefV,undefV,undefV,undefV,undefV,undefV,undefV,undefV] H (blockQ 0 (seqQ G r36_1 (retQ i36 k))))) := by kernel_rfl
@[simp] theorem ret36 : retQ i36 k .r (x0::x1::x2::x3::x4::z) H = k x4 H := nrfl
theorem wb36_0 : wp G b36_0 [x0,x1,x2,x3,x4,x5,x6,x7,x8,x9,aA,aB,aC,aD,aE,aF,aG,aH,aI,aJ,aK,aL,aM,aN,aO,aP] H Q = (
  bd (binV .lss aD aC) fun p0=>
  ifB p0
   (bd (iadrV 1 x0 aD) fun p1=>
   bd (ldV H p1 1 false) fun p2=>
   bd (iadrV 1 x1 aD) fun p3=>
   bd (ldV H p3 1 false) fun p4=>
   bd (binV .neq p2 p4) fun p5=>
   ifB p5
    (Q .r [x0,x1,x2,x3,(.bool false),aD,x6,x7,x8,x9,aA,aB,aC,aD,p0,aD,x0,aD,p1,p2,x1,aD,p3,p4,p5,aP] H)
    (bd (binV .add aD (.int .i64 1)) fun p6=>
    Q .n [x0,x1,x2,x3,x4,aD,x6,x7,x8,x9,aA,aB,aC,p6,p0,aD,x0,aD,p1,p2,x1,aD,p3,p4,p5,p6] H))
   (Q (.e 0) [x0,x1,x2,x3,x4,x5,x6,x7,x8,x9,aA,aB,aC,aD,p0,aF,aG,aH,aI,aJ,aK,aL,aM,aN,aO,aP] H)) := by kernel_rfl
def Sb36_0 (I : Nat → V → V → V → V → Heap → Prop) : Nat → List V → Heap → Prop := fun i ts H => ts.length = 26 ∧ I i (ts.getD 0 undefV) (ts.getD 1 undefV) (ts.getD 12 undefV) (ts.getD 13 undefV) H
@[simp] theorem Sb36_0_eq {I : Nat → V → V → V → V → Heap → Prop} {i : Nat} : Sb36_0 I i [x0,x1,x2,x3,x4,x5,x6,x7,x8,x9,aA,aB,aC,aD,aE,aF,aG,aH,aI,aJ,aK,aL,aM,aN,aO,aP] H = I i x0 x1 aC aD H := propext ⟨fun h => h.2,fun h => ⟨rfl,h⟩⟩
theorem ub36_0 (M : Nat) (I : Nat → V → V → V → V → Heap → Prop) (step : ∀ i,i ≤ M → ∀ (x0 x1 aC aD : V) (H : Heap),I i x0 x1 aC aD H → ∀ (x2 x3 x4 x5 x6 x7 x8 x9 aA aB aE aF aG aH aI aJ aK aL aM aN aO aP : V),wp G b36_0 [x0,x1,x2,x3,x4,x5,x6,x7,x8,x9,aA,aB,aC,aD,aE,aF,aG,aH,aI,aJ,aK,aL,aM,aN,aO,aP] H (upQ M (Sb36_0 I) i Q)) (i : Nat) (hi : i ≤ M) (h : I i x0 x1 aC aD H) : Lp G b36_0 [x0,x1,x2,x3,x4,x5,x6,x7,x8,x9,aA,aB,aC,aD,aE,aF,aG,aH,aI,aJ,aK,aL,aM,aN,aO,aP] H Q :=
  Lp.up (S := Sb36_0 I) (fun i t H hi hS => (congrArg (fun t => wp G b36_0 t H (upQ M (Sb36_0 I) i Q)) (tabF_eq hS.1)).mpr (step i hi _ _ _ _ H hS.2 ..)) _ i _ H rfl hi ⟨rfl,h⟩
theorem wr36_1 : wp G r36_1 (x0::x1::x2::x3::x4::z) H Q = (
  Q .r (x0::x1::x2::x3::(.bool true)::z) H) := by kernel_rfl
theorem w45 : runW G i45 [x0,x1] H k = (
  (true || G.pur 64) = true ∧ Cl G 64 [x0,x1] H fun p0 p1=>
  bd (binV .geq p0 (.int .i64 0)) fun p2=>
  k p2 p1) := by kernel_rfl
theorem w49 : runW G i49 [x0,x1,x2] H k = (
  bd (boxV x0) fun a3_0b => newB H a3_0b fun p0 p1=>
  bd (fadrV 3 x1) fun p2=>
  bd (ldV p1 p2 1 false) fun p3=>
  (true || G.pur 50) = true ∧ Cl G 50 [p3,(.fn 51 [x2,p0])] p1 fun p4 p5=>
  k p4 p5) := by kernel_rfl
theorem w50 : runW G i50 [x0,x1] H k = (
  (true || G.pur 65) = true ∧ Cl G 65 [x0,x1] H fun p0 p1=>
  bd (binV .geq p0 (.int .i64 0)) fun p2=>
  k p2 p1) := by kernel_rfl
theorem w51 : runW G i51 [x0,x1,x2] H k = (
  bd (ldV H x1 1 false) fun p0=>
  bd (iadrV 1 p0 x0) fun p1=>
  bd (ldV H p1 1 false) fun p2=>
  bd (ldV H x2 1 false) fun p3=>
  bd (iadrV 1 p2 p3) fun p4=>
  bd (ldV H p4 1 false) fun p5=>
  k p5 H) := by kernel_rfl
theorem w55 : runW G i55 [x0,x1] H k = (
  bd (bxrV x0) fun p0=>
  Lp G b55_0 [x0,x1,p0,undefV,(.bool false),(.int .i64 0),undefV,undefV,undefV,undefV,undefV,undefV,undefV,undefV,undefV,undefV,undefV,undefV,undefV,undefV,undefV,undefV] H (blockQ 0 (seqQ G r55_1 (retQ i55 k)))) := by kernel_rfl
@[simp] theorem ret55 : retQ i55 k .r (x0::x1::x2::x3::x4::z) H = k x4 H := nrfl
theorem wb55_0 : wp G b55_0 (x0::x1::x2::x3::x4::x5::x6::x7::x8::x9::aA::aB::aC::aD::aE::aF::aG::aH::aI::aJ::z) H Q = (
  bd (fadrV 1 x2) fun p0=>
  bd (ldV H p0 1 false) fun p1=>
  bd (lensV p1) fun p2=>
  bd (binV .lss x5 p2) fun p3=>
  ifB p3
   (bd (fadrV 1 x2) fun p4=>
   bd (ldV H p4 1 false) fun p5=>
   bd (iadrV 1 p5 x5) fun p6=>
   bd (ldV H p6 1 false) fun p7=>
   bd (binV .eql p7 x1) fun p8=>
   ifB p8
    (Q .r (x0::x1::x2::x3::(.bool true)::x5::x5::p0::p1::p2::p3::aB::aC::p4::p5::x5::p6::p7::x1::p8::z) H)
    (bd (binV .add x5 (.int .i64 1)) fun p9=>
    Q .n (x0::x1::x2::x3::x4::p9::x5::p0::p1::p2::p3::x5::p9::p4::p5::x5::p6::p7::x1::p8::z) H))
   (Q (.e 0) (x0::x1::x2::x3::x4::x5::x5::p0::p1::p2::p3::aB::aC::aD::aE::aF::aG::aH::aI::aJ::z) H)) := by kernel_rfl
def Sb55_0 (I : Nat → V → V → V → Heap → Prop) : Nat → List V → Heap → Prop := fun i ts H => ts.length = 22 ∧ I i (ts.getD 1 undefV) (ts.getD 2 undefV) (ts.getD 5 undefV) H
@[simp] theorem Sb55_0_eq {I : Nat → V → V → V → Heap → Prop} {i : Nat} : Sb55_0 I i [x0,x1,x2,x3,x4,x5,x6,x7,x8,x9,aA,aB,aC,aD,aE,aF,aG,aH,aI,aJ,aK,aL] H = I i x1 x2 x5 H := propext ⟨fun h => h.2,fun h => ⟨rfl,h⟩⟩
theorem ub55_0 (M : Nat) (I : Nat → V → V → V → Heap → Prop) (step : ∀ i,i ≤ M → ∀ (x1 x2 x5 : V) (H : Heap),I i x1 x2 x5 H → ∀ (x0 x3 x4 x6 x7 x8 x9 aA aB aC aD aE aF aG aH aI aJ aK aL : V),wp G b55_0 [x0,x1,x2,x3,x4,x5,x6,x7,x8,x9,aA,aB,aC,aD,aE,aF,aG,aH,aI,aJ,aK,aL] H (upQ M (Sb55_0 I) i Q)) (i : Nat) (hi : i ≤ M) (h : I i x1 x2 x5 H) : Lp G b55_0 [x0,x1,x2,x3,x4,x5,x6,x7,x8,x9,aA,aB,aC,aD,aE,aF,aG,aH,aI,aJ,aK,aL] H Q :=
  Lp.up (S := Sb55_0 I) (fun i t H hi hS => (congrArg (fun t => wp G b55_0 t H (upQ M (Sb55_0 I) i Q)) (tabF_eq hS.1)).mpr (step i hi _ _ _ H hS.2 ..)) _ i _ H rfl hi ⟨rfl,h⟩
theorem wr55_1 : wp G r55_1 [x0,x1,x2,x3,x4,x5,x6,x7,x8,x9,aA,aB,aC,aD,aE,aF,aG,aH,aI,aJ,aK,aL] H Q = (
  bd (binV .eql x1 (.str [])) fun p0=>
  Q .r [x0,x1,x2,x3,p0,x5,x6,x7,x8,x9,aA,aB,aC,aD,aE,aF,aG,aH,aI,aJ,x1,p0] H) := by kernel_rfl
theorem w59 : runW G i59 [x0] H k = (
  Lp G b59_0 [x0,undefV,(.bool false),(.int .i64 0),undefV,undefV,undefV,undefV,undefV,undefV,undefV,undefV,undefV,undefV,undefV,undefV,undefV,undefV,undefV,undefV,undefV,undefV,undefV,undefV,undefV,undefV,undefV,undefV] H (blockQ 0 (seqQ G r59_1 (retQ i59 k)))) := by kernel_rfl
@[simp] theorem ret59 : retQ i59 k .r (x0::x1::x2::z) H = k x2 H := nrfl
theorem wb59_0 : wp G b59_0 (x0::x1::x2::x3::x4::x5::x6::x7::x8::x9::aA::aB::aC::aD::aE::aF::aG::aH::aI::aJ::z) H Q = (
  bd (lentV x0) fun p0=>
  bd (binV .lss x3 p0) fun p1=>
  ifB p1
   (bd (sidxV x0 x3) fun p2=>
   bd (binV .lss p2 (.int .u8 33)) fun p3=>
   wpg (gdV p3 false) H (fun k => k x0 H) fun p4 p5=>
   wpg (gdV p3 false) p5 (fun k => k x3 p5) fun p6 p7=>
   wpg (gdV p3 false) p7 (fun k => bd (sidxV p4 p6) fun p8 => k p8 p7) fun p9 pA=>
   wpg (gdV p3 false) pA (fun k => bd (binV .gtr p9 (.int .u8 126)) fun pB => k pB pA) fun pC pD=>
   bd (pickV p3 (.bool true) pC) fun pE=>
   ifB pE
    (Q .r (x0::x1::(.bool false)::x3::x3::x0::p0::p1::x8::x9::x0::x3::p2::p3::p3::p4::p6::p9::pC::pE::z) pD)
    (bd (binV .add x3 (.int .i64 1)) fun pF=>
    Q .n (x0::x1::x2::pF::x3::x0::p0::p1::x3::pF::x0::x3::p2::p3::p3::p4::p6::p9::pC::pE::z) pD))
   (Q (.e 0) (x0::x1::x2::x3::x3::x0::p0::p1::x8::x9::aA::aB::aC::aD::aE::aF::aG::aH::aI::aJ::z) H)) := by kernel_rfl
def Sb59_0 (I : Nat → V → V → Heap → Prop) : Nat → List V → Heap → Prop := fun i ts H => ts.length = 28 ∧ I i (ts.getD 0 undefV) (ts.getD 3 undefV) H
@[simp] theorem Sb59_0_eq {I : Nat → V → V → Heap → Prop} {i : Nat} : Sb59_0 I i [x0,x1,x2,x3,x4,x5,x6,x7,x8,x9,aA,aB,aC,aD,aE,aF,aG,aH,aI,aJ,aK,aL,aM,aN,aO,aP,aQ,aR] H = I i x0 x3 H := propext ⟨fun h => h.2,fun h => ⟨rfl,h⟩⟩
theorem ub59_0 (M : Nat) (I : Nat → V → V → Heap → Prop) (step : ∀ i,i ≤ M → ∀ (x0 x3 : V) (H : Heap),I i x0 x3 H → ∀ (x1 x2 x4 x5 x6 x7 x8 x9 aA aB aC aD aE aF aG aH aI aJ aK aL aM aN aO aP aQ aR : V),wp G b59_0 [x0,x1,x2,x3,x4,x5,x6,x7,x8,x9,aA,aB,aC,aD,aE,aF,aG,aH,aI,aJ,aK,aL,aM,aN,aO,aP,aQ,aR] H (upQ M (Sb59_0 I) i Q)) (i : Nat) (hi : i ≤ M) (h : I i x0 x3 H) : Lp G b59_0 [x0,x1,x2,x3,x4,x5,x6,x7,x8,x9,aA,aB,aC,aD,aE,aF,aG,aH,aI,aJ,aK,aL,aM,aN,aO,aP,aQ,aR] H Q :=
  Lp.up (S := Sb59_0 I) (fun i t H hi hS => (congrArg (fun t => wp G b59_0 t H (upQ M (Sb59_0 I) i Q)) (tabF_eq hS.1)).mpr (step i hi _ _ H hS.2 ..)) _ i _ H rfl hi ⟨rfl,h⟩
theorem wr59_1 : wp G r59_1 [x0,x1,x2,x3,x4,x5,x6,x7,x8,x9,aA,aB,aC,aD,aE,aF,aG,aH,aI,aJ,aK,aL,aM,aN,aO,aP,aQ,aR] H Q = (
  bd (lentV x0) fun p0=>
  bd (binV .geq p0 (.int .i64 1)) fun p1=>
  wpg (gdV p1 true) H (fun k => k x0 H) fun p2 p3=>
  wpg (gdV p1 true) p3 (fun k => bd (lentV p2) fun p4 => k p4 p3) fun p5 p6=>
  wpg (gdV p1 true) p6 (fun k => bd (binV .leq p5 (.int .i64 40)) fun p7 => k p7 p6) fun p8 p9=>
  bd (pickV p1 p8 (.bool false)) fun pA=>
  Q .r [x0,x1,pA,x3,x4,x5,x6,x7,x8,x9,aA,aB,aC,aD,aE,aF,aG,aH,aI,aJ,x0,p0,p1,p1,p2,p5,p8,pA] p9) := by kernel_rfl
theorem w64 : runW G i64 [x0,x1] H k = (
  bd (lensV x0) fun p0=>
  Lp G b64_0 [x0,x1,undefV,undefV,(.int .i64 0),undefV,x0,p0,(.int .i64 0),undefV,undefV,undefV,undefV,undefV,undefV,undefV,undefV,undefV,undefV] H (blockQ 0 (seqQ G r64_1 (retQ i64 k)))) := by kernel_rfl
@[simp] theorem ret64 : retQ i64 k .r (x0::x1::x2::x3::x4::z) H = k x4 H := nrfl
theorem wb64_0 : wp G b64_0 [x0,x1,x2,x3,x4,x5,x6,x7,x8,x9,aA,aB,aC,aD,aE,aF,aG,aH,aI] H Q = (
  bd (binV .lss x8 x7) fun p0=>
  ifB p0
   (bd (iadrV 1 x0 x8) fun p1=>
   bd (ldV H p1 1 false) fun p2=>
   bd (binV .eql x1 p2) fun p3=>
   ifB p3
    (Q .r [x0,x1,x2,x3,x8,x8,x6,x7,x8,p0,x8,x1,x0,x8,p1,p2,p3,x8,aI] H)
    (bd (binV .add x8 (.int .i64 1)) fun p4=>
    Q .n [x0,x1,x2,x3,x4,x8,x6,x7,p4,p0,x8,x1,x0,x8,p1,p2,p3,aH,p4] H))
   (Q (.e 0) [x0,x1,x2,x3,x4,x5,x6,x7,x8,p0,aA,aB,aC,aD,aE,aF,aG,aH,aI] H)) := by kernel_rfl
def Sb64_0 (I : Nat → V → V → V → V → Heap → Prop) : Nat → List V → Heap → Prop := fun i ts H => ts.length = 19 ∧ I i (ts.getD 0 undefV) (ts.getD 1 undefV) (ts.getD 7 undefV) (ts.getD 8 undefV) H
@[simp] theorem Sb64_0_eq {I : Nat → V → V → V → V → Heap → Prop} {i : Nat} : Sb64_0 I i [x0,x1,x2,x3,x4,x5,x6,x7,x8,x9,aA,aB,aC,aD,aE,aF,aG,aH,aI] H = I i x0 x1 x7 x8 H := propext ⟨fun h => h.2,fun h => ⟨rfl,h⟩⟩
theorem ub64_0 (M : Nat) (I : Nat → V → V → V → V → Heap → Prop) (step : ∀ i,i ≤ M → ∀ (x0 x1 x7 x8 : V) (H : Heap),I i x0 x1 x7 x8 H → ∀ (x2 x3 x4 x5 x6 x9 aA aB aC aD aE aF aG aH aI : V),wp G b64_0 [x0,x1,x2,x3,x4,x5,x6,x7,x8,x9,aA,aB,aC,aD,aE,aF,aG,aH,aI] H (upQ M (Sb64_0 I) i Q)) (i : Nat) (hi : i ≤ M) (h : I i x0 x1 x7 x8 H) : Lp G b64_0 [x0,x1,x2,x3,x4,x5,x6,x7,x8,x9,aA,aB,aC,aD,aE,aF,aG,aH,aI] H Q :=
  Lp.up (S := Sb64_0 I) (fun i t H hi hS => (congrArg (fun t => wp G b64_0 t H (upQ M (Sb64_0 I) i Q)) (tabF_eq hS.1)).mpr (step i hi _ _ _ _ H hS.2 ..)) _ i _ H rfl hi ⟨rfl,h⟩
theorem wr64_1 : wp G r64_1 (x0::x1::x2::x3::x4::z) H Q = (
  Q .r (x0::x1::x2::x3::(.int .i64 (-1))::z) H) := by kernel_rfl
theorem w65 : runW G i65 [x0,x1] H k = (
  bd (lensV x0) fun p0=>
  Lp G b65_0 [x0,x1,undefV,undefV,(.int .i64 0),undefV,x0,p0,(.int .i64 0),undefV,undefV,undefV,undefV,undefV,undefV,undefV,undefV,undefV,undefV] H (blockQ 0 (seqQ G r65_1 (retQ i65 k)))) := by kernel_rfl
@[simp] theorem ret65 : retQ i65 k .r (x0::x1::x2::x3::x4::z) H = k x4 H := nrfl
theorem wb65_0 : wp G b65_0 [x0,x1,x2,x3,x4,x5,x6,x7,x8,x9,aA,aB,aC,aD,aE,aF,aG,aH,aI] H Q = (
  bd (binV .lss x8 x7) fun p0=>
  ifB p0
   (bd (iadrV 1 x0 x8) fun p1=>
   bd (ldV H p1 1 false) fun p2=>
   bd (callV x1) fun c => (true || G.pur c.1) = true ∧ Cl G c.1 ([p2] ++ c.2) H fun p3 p4=>
   ifB p3
    (Q .r [x0,x1,x2,x3,x8,x8,x6,x7,x8,p0,x8,x1,x0,x8,p1,p2,p3,x8,aI] p4)
    (bd (binV .add x8 (.int .i64 1)) fun p5=>
    Q .n [x0,x1,x2,x3,x4,x8,x6,x7,p5,p0,x8,x1,x0,x8,p1,p2,p3,aH,p5] p4))
   (Q (.e 0) [x0,x1,x2,x3,x4,x5,x6,x7,x8,p0,aA,aB,aC,aD,aE,aF,aG,aH,aI] H)) := by kernel_rfl
def Sb65_0 (I : Nat → V → V → V → V → Heap → Prop) : Nat → List V → Heap → Prop := fun i ts H => ts.length = 19 ∧ I i (ts.getD 0 undefV) (ts.getD 1 undefV) (ts.getD 7 undefV) (ts.getD 8 undefV) H
@[simp] theorem Sb65_0_eq {I : Nat → V → V → V → V → Heap → Prop} {i : Nat} : Sb65_0 I i [x0,x1,x2,x3,x4,x5,x6,x7,x8,x9,aA,aB,aC,aD,aE,aF,aG,aH,aI] H = I i x0 x1 x7 x8 H := propext ⟨fun h => h.2,fun h => ⟨rfl,h⟩⟩
theorem ub65_0 (M : Nat) (I : Nat → V → V → V → V → Heap → Prop) (step : ∀ i,i ≤ M → ∀ (x0 x1 x7 x8 : V) (H : Heap),I i x0 x1 x7 x8 H → ∀ (x2 x3 x4 x5 x6 x9 aA aB aC aD aE aF aG aH aI : V),wp G b65_0 [x0,x1,x2,x3,x4,x5,x6,x7,x8,x9,aA,aB,aC,aD,aE,aF,aG,aH,aI] H (upQ M (Sb65_0 I) i Q)) (i : Nat) (hi : i ≤ M) (h : I i x0 x1 x7 x8 H) : Lp G b65_0 [x0,x1,x2,x3,x4,x5,x6,x7,x8,x9,aA,aB,aC,aD,aE,aF,aG,aH,aI] H Q :=
  Lp.up (S := Sb65_0 I) (fun i t H hi hS => (congrArg (fun t => wp G b65_0 t H (upQ M (Sb65_0 I) i Q)) (tabF_eq hS.1)).mpr (step i hi _ _ _ _ H hS.2 ..)) _ i _ H rfl hi ⟨rfl,h⟩
theorem wr65_1 : wp G r65_1 (x0::x1::x2::x3::x4::z) H Q = (
  Q .r (x0::x1::x2::x3::(.int .i64 (-1))::z) H) := by kernel_rfl
theorem w66 : runW G i66 [x0,x1] H k = (
  bd (ldV H x1 1 false) fun p0=>
  bd (iadrV 1 p0 x0) fun p1=>
  bd (ldV H p1 1 false) fun p2=>
  bd (unV .not p2) fun p3=>
  k p3 H) := by kernel_rfl
theorem w67 : runW G i67 [x0] H k = (
  bd (lentV x0) fun p0=>
  bd (binV .gtr p0 (.int .i64 0)) fun p1=>
  wpg (gdV p1 true) H (fun k => k x0 H) fun p2 p3=>
  wpg (gdV p1 true) p3 (fun k => bd (lentV p2) fun p4 => k p4 p3) fun p5 p6=>
  wpg (gdV p1 true) p6 (fun k => bd (binV .leq p5 (.int .i64 40)) fun p7 => k p7 p6) fun p8 p9=>
  bd (pickV p1 p8 (.bool false)) fun pA=>
  wpg (gdV pA true) p9 (fun k => k x0 p9) fun pB pC=>
  wpg (gdV pA true) pC (fun k => (true || G.pur 77) = true ∧ Cl G 77 [pB,(.fn 78 [])] pC fun pD pE => k pD pE) fun pF pG=>
  wpg (gdV pA true) pG (fun k => bd (unV .not pF) fun pH => k pH pG) fun pI pJ=>
  bd (pickV pA pI (.bool false)) fun pK=>
  k pK pJ) := by kernel_rfl
theorem w77 : runW G i77 [x0,x1] H k = (
  (true || G.pur 85) = true ∧ Cl G 85 [x0,x1] H fun p0 p1=>
  bd (binV .geq p0 (.int .i64 0)) fun p2=>
  k p2 p1) := by kernel_rfl
theorem w78 : runW G i78 [x0] H k = (
  bd (binV .lss x0 (.int .i32 33)) fun p0=>
  wpg (gdV p0 false) H (fun k => k x0 H) fun p1 p2=>
  wpg (gdV p0 false) p2 (fun k => bd (binV .gtr p1 (.int .i32 126)) fun p3 => k p3 p2) fun p4 p5=>
  bd (pickV p0 (.bool true) p4) fun p6=>
  k p6 p5) := by kernel_rfl
theorem w85 : runW G i85 [x0,x1] H k = (
  (true || G.pur 97) = true ∧ Cl G 97 [x0,x1,(.bool true)] H fun p0 p1=>
  k p0 p1) := by kernel_rfl
theorem w97 : runW G i97 [x0,x1,x2] H k = (
  bd (rngV x0) fun a10_2b => newB H a10_2b fun p0 p1=>
  Lp G b97_0 [x0,x1,x2,undefV,undefV,undefV,(.int .i64 0),undefV,undefV,x0,p0,undefV,undefV,undefV,undefV,undefV,undefV,undefV,undefV,undefV,undefV] p1 (blockQ 0 (seqQ G r97_1 (retQ i97 k)))) := by kernel_rfl
@[simp] theorem ret97 : retQ i97 k .r (x0::x1::x2::x3::x4::x5::x6::z) H = k x6 H := nrfl
theorem wb97_0 : wp G b97_0 [x0,x1,x2,x3,x4,x5,x6,x7,x8,x9,aA,aB,aC,aD,aE,aF,aG,aH,aI,aJ,aK] H Q = (
  true = true ∧ bd2 (nxtV H aA) fun p0 p1=>
  bd (extV 0 p0) fun p2=>
  ifB p2
   (bd (extV 1 p0) fun p3=>
   bd (extV 2 p0) fun p4=>
   bd (callV x1) fun c => (true || G.pur c.1) = true ∧ Cl G c.1 ([p4] ++ c.2) p1 fun p5 p6=>
   bd (eqnV .bool false p5 x2) fun p7=>
   ifB p7
    (Q .r [x0,x1,x2,x3,x4,x5,p3,p3,p4,x9,aA,p0,p2,p3,p4,x1,p4,p5,x2,p7,p3] p6)
    (Q .n [x0,x1,x2,x3,x4,x5,x6,p3,p4,x9,aA,p0,p2,p3,p4,x1,p4,p5,x2,p7,aK] p6))
   (Q (.e 0) [x0,x1,x2,x3,x4,x5,x6,x7,x8,x9,aA,p0,p2,aD,aE,aF,aG,aH,aI,aJ,aK] p1)) := by kernel_rfl
def Sb97_0 (I : Nat → V → V → V → Heap → Prop) : Nat → List V → Heap → Prop := fun i ts H => ts.length = 21 ∧ I i (ts.getD 1 undefV) (ts.getD 2 undefV) (ts.getD 10 undefV) H
@[simp] theorem Sb97_0_eq {I : Nat → V → V → V → Heap → Prop} {i : Nat} : Sb97_0 I i [x0,x1,x2,x3,x4,x5,x6,x7,x8,x9,aA,aB,aC,aD,aE,aF,aG,aH,aI,aJ,aK] H = I i x1 x2 aA H := propext ⟨fun h => h.2,fun h => ⟨rfl,h⟩⟩
theorem ub97_0 (M : Nat) (I : Nat → V → V → V → Heap → Prop) (step : ∀ i,i ≤ M → ∀ (x1 x2 aA : V) (H : Heap),I i x1 x2 aA H → ∀ (x0 x3 x4 x5 x6 x7 x8 x9 aB aC aD aE aF aG aH aI aJ aK : V),wp G b97_0 [x0,x1,x2,x3,x4,x5,x6,x7,x8,x9,aA,aB,aC,aD,aE,aF,aG,aH,aI,aJ,aK] H (upQ M (Sb97_0 I) i Q)) (i : Nat) (hi : i ≤ M) (h : I i x1 x2 aA H) : Lp G b97_0 [x0,x1,x2,x3,x4,x5,x6,x7,x8,x9,aA,aB,aC,aD,aE,aF,aG,aH,aI,aJ,aK] H Q :=
  Lp.up (S := Sb97_0 I) (fun i t H hi hS => (congrArg (fun t => wp G b97_0 t H (upQ M (Sb97_0 I) i Q)) (tabF_eq hS.1)).mpr (step i hi _ _ _ H hS.2 ..)) _ i _ H rfl hi ⟨rfl,h⟩
theorem wr97_1 : wp G r97_1 (x0::x1::x2::x3::x4::x5::x6::z) H Q = (
  Q .r (x0::x1::x2::x3::x4::x5::(.int .i64 (-1))::z) H) := by kernel_rfl
end
end Go.Proofs.Ytoommmeapdkopaa.E
set_option maxRecDepth 20000
namespace Go.Proofs.Ytoommmeapdkopaa.E
open Go Go.Eng
section
variable {z : List V} {x0 x1 x2 x3 x4 x5 x6 x7 x8 x9 aA aB aC aD aE aF aG aH aI aJ aK aL aM aN aO aP aQ aR aS aT aU aV aW aX aY aZ cA cB cC cD cE cF cG cH cI cJ cK cL cM cN cO cP cQ cR cS cT cU cV cW cX cY cZ dA dB dC dD dE dF dG dH dI dJ dK dL dM dN dO dP dQ dR dS dT dU dV dW dX dY dZ eA eB eC eD eE eF : V} {H : Heap} {k : V → Heap → Prop} {Q : Cont}
theorem w39 : runW G i39 [x0] H k = (
  bd (bxrV x0) fun p0=>
  bd (ldV H p0 2 true) fun p1=>
  (true || G.pur 60) = true ∧ Cl G 60 [p1] H fun p2 p3=>
  bd (binV .neq p2 (.int .i64 0)) fun p4=>
  ifB p4
   (k (.tup [.nils,p2]) p3)
   (bd (fadrV 0 p0) fun p5=>
   bd (ldV p3 p5 1 false) fun p6=>
   bd2 (mksV 1 8 [(.int .i64 0)] p3 p6 p6) fun p7 p8=>
   bd (fadrV 0 p0) fun p9=>
   bd (ldV p8 p9 1 false) fun pA=>
   bd2 (mksV 1 1 [(.bool false)] p8 pA pA) fun pB pC=>
   bd (fadrV 1 p0) fun pD=>
   bd (ldV pC pD 1 false) fun pE=>
   bd (lensV pE) fun pF=>
   Lp G b39_0 (x0::p0::.nils::(.int .i64 0)::p2::p7::pB::undefV::undefV::undefV::undefV::undefV::undefV::undefV::p1::p2::p2::p4::undefV::p5::p6::p7::p9::pA::pB::pD::pE::pF::(.int .i64 0)::undefV::undefV::undefV::undefV::undefV::undefV::undefV::undefV::undefV::undefV::undefV::undefV::undefV::undefV::undefV::undefV::undefV::undefV::undefV::undefV::undefV::undefV::undefV::undefV::undefV::undefV::undefV::undefV::undefV::undefV::undefV::undefV::undefV::undefV::undefV::undefV::undefV::undefV::undefV::undefV::undefV::undefV::undefV::undefV::undefV::undefV::undefV::undefV::undefV::undefV::undefV::undefV::undefV::undefV::undefV::undefV::undefV::undefV::undefV::undefV::undefV::undefV::undefV::undefV::undefV::[]) pC (blockQ 0 (seqQ G r39_1 (retQ i39 k))))) := by kernel_rfl
@[simp] theorem ret39 : retQ i39 k .r (x0::x1::x2::x3::z) H = k (.tup [x2,x3]) H := nrfl
theorem wb39_0 : wp G b39_0 (x0::x1::x2::x3::x4::x5::x6::x7::x8::x9::aA::aB::aC::aD::aE::aF::aG::aH::aI::aJ::aK::aL::aM::aN::aO::aP::aQ::aR::aS::aT::aU::aV::aW::aX::aY::aZ::cA::cB::cC::cD::z) H Q = (
  bd (binV .lss aS aR) fun p0=>
  ifB p0
   (bd (iadrV 2 aQ aS) fun p1=>
   bd (ldV H p1 2 true) fun p2=>
   newB H (.cells [(.int .i64 0),(.int .i64 0)]) fun p3 p4=>
   true = true ∧ bd (stV p4 2 p3 p2) fun p5=>
   bd2 (frzV p5 p3) fun p6 p7=>
   bd (fadrV 1 p6) fun p8=>
   bd (ldrV p8 1 false) fun p9=>
   bd (iadrV 1 x5 p9) fun pA=>
   bd (ldV p7 pA 1 false) fun pB=>
   bd (binV .add pB (.int .i64 1)) fun pC=>
   bd (iadrV 1 x5 p9) fun pD=>
   true = true ∧ bd (stV p7 1 pD pC) fun pE=>
   bd (binV .add aS (.int .i64 1)) fun pF=>
   Q .n (x0::x1::x2::x3::x4::x5::x6::x7::p6::x9::aA::aB::aC::aD::aE::aF::aG::aH::aI::aJ::aK::aL::aM::aN::aO::aP::aQ::aR::pF::p0::p1::p2::x5::p8::p9::pA::pB::pC::pD::pF::z) pE)
   (Q (.e 0) (x0::x1::x2::x3::x4::x5::x6::x7::x8::x9::aA::aB::aC::aD::aE::aF::aG::aH::aI::aJ::aK::aL::aM::aN::aO::aP::aQ::aR::aS::p0::aU::aV::aW::aX::aY::aZ::cA::cB::cC::cD::z) H)) := by kernel_rfl
def Sb39_0 (I : Nat → V → V → V → V → V → V → Heap → Prop) : Nat → List V → Heap → Prop := fun i ts H => ts.length = 94 ∧ I i (ts.getD 1 undefV) (ts.getD 5 undefV) (ts.getD 6 undefV) (ts.getD 26 undefV) (ts.getD 27 undefV) (ts.getD 28 undefV) H
@[simp] theorem Sb39_0_eq {I : Nat → V → V → V → V → V → V → Heap → Prop} {i : Nat} : Sb39_0 I i (x0::x1::x2::x3::x4::x5::x6::x7::x8::x9::aA::aB::aC::aD::aE::aF::aG::aH::aI::aJ::aK::aL::aM::aN::aO::aP::aQ::aR::aS::aT::aU::aV::aW::aX::aY::aZ::cA::cB::cC::cD::cE::cF::cG::cH::cI::cJ::cK::cL::cM::cN::cO::cP::cQ::cR::cS::cT::cU::cV::cW::cX::cY::cZ::dA::dB::dC::dD::dE::dF::dG::dH::dI::dJ::dK::dL::dM::dN::dO::dP::dQ::dR::dS::dT::dU::dV::dW::dX::dY::dZ::eA::eB::eC::eD::eE::eF::[]) H = I i x1 x5 x6 aQ aR aS H := propext ⟨fun h => h.2,fun h => ⟨rfl,h⟩⟩
theorem ub39_0 (M : Nat) (I : Nat → V → V → V → V → V → V → Heap → Prop) (step : ∀ i,i ≤ M → ∀ (x1 x5 x6 aQ aR aS : V) (H : Heap),I i x1 x5 x6 aQ aR aS H → ∀ (x0 x2 x3 x4 x7 x8 x9 aA aB aC aD aE aF aG aH aI aJ aK aL aM aN aO aP aT aU aV aW aX aY aZ cA cB cC cD cE cF cG cH cI cJ cK cL cM cN cO cP cQ cR cS cT cU cV cW cX cY cZ dA dB dC dD dE dF dG dH dI dJ dK dL dM dN dO dP dQ dR dS dT dU dV dW dX dY dZ eA eB eC eD eE eF : V),wp G b39_0 (x0::x1::x2::x3::x4::x5::x6::x7::x8::x9::aA::aB::aC::aD::aE::aF::aG::aH::aI::aJ::aK::aL::aM::aN::aO::aP::aQ::aR::aS::aT::aU::aV::aW::aX::aY::aZ::cA::cB::cC::cD::cE::cF::cG::cH::cI::cJ::cK::cL::cM::cN::cO::cP::cQ::cR::cS::cT::cU::cV::cW::cX::cY::cZ::dA::dB::dC::dD::dE::dF::dG::dH::dI::dJ::dK::dL::dM::dN::dO::dP::dQ::dR::dS::dT::dU::dV::dW::dX::dY::dZ::eA::eB::eC::eD::eE::eF::[]) H (upQ M (Sb39_0 I) i Q)) (i : Nat) (hi : i ≤ M) (h : I i x1 x5 x6 aQ aR aS H) : Lp G b39_0 (x0::x1::x2::x3::x4::x5::x6::x7::x8::x9::aA::aB::aC::aD::aE::aF::aG::aH::aI::aJ::aK::aL::aM::aN::aO::aP::aQ::aR::aS::aT::aU::aV::aW::aX::aY::aZ::cA::cB::cC::cD::cE::cF::cG::cH::cI::cJ::cK::cL::cM::cN::cO::cP::cQ::cR::cS::cT::cU::cV::cW::cX::cY::cZ::dA::dB::dC::dD::dE::dF::dG::dH::dI::dJ::dK::dL::dM::dN::dO::dP::dQ::dR::dS::dT::dU::dV::dW::dX::dY::dZ::eA::eB::eC::eD::eE::eF::[]) H Q :=
  Lp.up (S := Sb39_0 I) (fun i t H hi hS => (congrArg (fun t => wp G b39_0 t H (upQ M (Sb39_0 I) i Q)) (tabF_eq hS.1)).mpr (step i hi _ _ _ _ _ _ H hS.2 ..)) _ i _ H rfl hi ⟨rfl,h⟩
theorem wr39_1 : wp G r39_1 (x0::x1::x2::x3::x4::x5::x6::x7::x8::x9::aA::aB::aC::aD::aE::aF::aG::aH::aI::aJ::aK::aL::aM::aN::aO::aP::aQ::aR::aS::aT::aU::aV::aW::aX::aY::aZ::cA::cB::cC::cD::cE::cF::cG::cH::cI::z) H Q = (
  bd (ldV H x1 2 true) fun p0=>
  (true || G.pur 61) = true ∧ Cl G 61 [p0] H fun p1 p2=>
  bd (fadrV 0 x1) fun p3=>
  bd (ldV p2 p3 1 false) fun p4=>
  Lp G b39_2 (x0::x1::x2::x3::x4::x5::x6::x7::x8::p1::.nils::aB::aC::aD::aE::aF::aG::aH::aI::aJ::aK::aL::aM::aN::aO::aP::aQ::aR::aS::aT::aU::aV::aW::aX::aY::aZ::cA::cB::cC::cD::p0::p1::p3::p4::(.int .i64 0)::z) p2 (blockQ 2 (seqQ G r39_7 Q))) := by kernel_rfl
theorem wb39_2 : wp G b39_2 (x0::x1::x2::x3::x4::x5::x6::x7::x8::x9::aA::aB::aC::aD::aE::aF::aG::aH::aI::aJ::aK::aL::aM::aN::aO::aP::aQ::aR::aS::aT::aU::aV::aW::aX::aY::aZ::cA::cB::cC::cD::cE::cF::cG::cH::cI::cJ::z) H Q = (
  bd (binV .lss cI cH) fun p0=>
  ifB p0
   (Lp G b39_3 (x0::x1::x2::x3::x4::x5::x6::x7::x8::x9::aA::(.int .i64 0)::aC::aD::aE::aF::aG::aH::aI::aJ::aK::aL::aM::aN::aO::aP::aQ::aR::aS::aT::aU::aV::aW::aX::aY::aZ::cA::cB::cC::cD::cE::cF::cG::cH::cI::p0::z) H (blockQ 4 (seqQ G r39_4 (blockQ 3 (seqQ G r39_6 Q)))))
   (Q (.e 2) (x0::x1::x2::x3::x4::x5::x6::x7::x8::x9::aA::aB::aC::aD::aE::aF::aG::aH::aI::aJ::aK::aL::aM::aN::aO::aP::aQ::aR::aS::aT::aU::aV::aW::aX::aY::aZ::cA::cB::cC::cD::cE::cF::cG::cH::cI::p0::z) H)) := by kernel_rfl
def Sb39_2 (I : Nat → V → V → V → V → V → V → V → Heap → Prop) : Nat → List V → Heap → Prop := fun i ts H => ts.length = 94 ∧ I i (ts.getD 1 undefV) (ts.getD 5 undefV) (ts.getD 6 undefV) (ts.getD 9 undefV) (ts.getD 10 undefV) (ts.getD 43 undefV) (ts.getD 44 undefV) H
@[simp] theorem Sb39_2_eq {I : Nat → V → V → V → V → V → V → V → Heap → Prop} {i : Nat} : Sb39_2 I i (x0::x1::x2::x3::x4::x5::x6::x7::x8::x9::aA::aB::aC::aD::aE::aF::aG::aH::aI::aJ::aK::aL::aM::aN::aO::aP::aQ::aR::aS::aT::aU::aV::aW::aX::aY::aZ::cA::cB::cC::cD::cE::cF::cG::cH::cI::cJ::cK::cL::cM::cN::cO::cP::cQ::cR::cS::cT::cU::cV::cW::cX::cY::cZ::dA::dB::dC::dD::dE::dF::dG::dH::dI::dJ::dK::dL::dM::dN::dO::dP::dQ::dR::dS::dT::dU::dV::dW::dX::dY::dZ::eA::eB::eC::eD::eE::eF::[]) H = I i x1 x5 x6 x9 aA cH cI H := propext ⟨fun h => h.2,fun h => ⟨rfl,h⟩⟩
theorem ub39_2 (M : Nat) (I : Nat → V → V → V → V → V → V → V → Heap → Prop) (step : ∀ i,i ≤ M → ∀ (x1 x5 x6 x9 aA cH cI : V) (H : Heap),I i x1 x5 x6 x9 aA cH cI H → ∀ (x0 x2 x3 x4 x7 x8 aB aC aD aE aF aG aH aI aJ aK aL aM aN aO aP aQ aR aS aT aU aV aW aX aY aZ cA cB cC cD cE cF cG cJ cK cL cM cN cO cP cQ cR cS cT cU cV cW cX cY cZ dA dB dC dD dE dF dG dH dI dJ dK dL dM dN dO dP dQ dR dS dT dU dV dW dX dY dZ eA eB eC eD eE eF : V),wp G b39_2 (x0::x1::x2::x3::x4::x5::x6::x7::x8::x9::aA::aB::aC::aD::aE::aF::aG::aH::aI::aJ::aK::aL::aM::aN::aO::aP::aQ::aR::aS::aT::aU::aV::aW::aX::aY::aZ::cA::cB::cC::cD::cE::cF::cG::cH::cI::cJ::cK::cL::cM::cN::cO::cP::cQ::cR::cS::cT::cU::cV::cW::cX::cY::cZ::dA::dB::dC::dD::dE::dF::dG::dH::dI::dJ::dK::dL::dM::dN::dO::dP::dQ::dR::dS::dT::dU::dV::dW::dX::dY::dZ::eA::eB::eC::eD::eE::eF::[]) H (upQ M (Sb39_2 I) i Q)) (i : Nat) (hi : i ≤ M) (h : I i x1 x5 x6 x9 aA cH cI H) : Lp G b39_2 (x0::x1::x2::x3::x4::x5::x6::x7::x8::x9::aA::aB::aC::aD::aE::aF::aG::aH::aI::aJ::aK::aL::aM::aN::aO::aP::aQ::aR::aS::aT::aU::aV::aW::aX::aY::aZ::cA::cB::cC::cD::cE::cF::cG::cH::cI::cJ::cK::cL::cM::cN::cO::cP::cQ::cR::cS::cT::cU::cV::cW::cX::cY::cZ::dA::dB::dC::dD::dE::dF::dG::dH::dI::dJ::dK::dL::dM::dN::dO::dP::dQ::dR::dS::dT::dU::dV::dW::dX::dY::dZ::eA::eB::eC::eD::eE::eF::[]) H Q :=
  Lp.up (S := Sb39_2 I) (fun i t H hi hS => (congrArg (fun t => wp G b39_2 t H (upQ M (Sb39_2 I) i Q)) (tabF_eq hS.1)).mpr (step i hi _ _ _ _ _ _ _ H hS.2 ..)) _ i _ H rfl hi ⟨rfl,h⟩
theorem wb39_3 : wp G b39_3 (x0::x1::x2::x3::x4::x5::x6::x7::x8::x9::aA::aB::aC::aD::aE::aF::aG::aH::aI::aJ::aK::aL::aM::aN::aO::aP::aQ::aR::aS::aT::aU::aV::aW::aX::aY::aZ::cA::cB::cC::cD::cE::cF::cG::cH::cI::cJ::cK::cL::cM::cN::cO::cP::cQ::cR::cS::cT::cU::cV::cW::cX::cY::cZ::dA::dB::dC::z) H Q = (
  bd (fadrV 0 x1) fun p0=>
  bd (ldV H p0 1 false) fun p1=>
  bd (binV .lss aB p1) fun p2=>
  wpg (gdV p2 true) H (fun k => k x6 H) fun p3 p4=>
  wpg (gdV p2 true) p4 (fun k => k aB p4) fun p5 p6=>
  wpg (gdV p2 true) p6 (fun k => bd (iadrV 1 p3 p5) fun p7 => k p7 p6) fun p8 p9=>
  wpg (gdV p2 true) p9 (fun k => bd (ldV p9 p8 1 false) fun pA => k pA p9) fun pB pC=>
  wpg (gdV p2 true) pC (fun k => k pB pC) fun pD pE=>
  wpg (gdV pD false) pE (fun k => k x5 pE) fun pF pG=>
  wpg (gdV pD false) pG (fun k => k aB pG) fun pH pI=>
  wpg (gdV pD false) pI (fun k => bd (iadrV 1 pF pH) fun pJ => k pJ pI) fun pK pL=>
  wpg (gdV pD false) pL (fun k => bd (ldV pL pK 1 false) fun pM => k pM pL) fun pN pO=>
  wpg (gdV pD false) pO (fun k => bd (binV .gtr pN (.int .i64 0)) fun pP => k pP pO) fun pQ pR=>
  wpg (gdV p2 true) pR (fun k => bd (pickV pD (.bool true) pQ) fun pS => k pS pR) fun pT pU=>
  bd (pickV p2 pT (.bool false)) fun pV=>
  ifB pV
   (bd (binV .add aB (.int .i64 1)) fun pW=>
   Q .n (x0::x1::x2::x3::x4::x5::x6::x7::x8::x9::aA::pW::aC::aD::aE::aF::aG::aH::aI::aJ::aK::aL::aM::aN::aO::aP::aQ::aR::aS::aT::aU::aV::aW::aX::aY::aZ::cA::cB::cC::cD::cE::cF::cG::cH::cI::cJ::aB::p0::p1::p2::p2::p3::p5::p8::pB::pD::pF::pH::pK::pN::pQ::pT::pV::aB::pW::z) pU)
   (Q (.e 4) (x0::x1::x2::x3::x4::x5::x6::x7::x8::x9::aA::aB::aC::aD::aE::aF::aG::aH::aI::aJ::aK::aL::aM::aN::aO::aP::aQ::aR::aS::aT::aU::aV::aW::aX::aY::aZ::cA::cB::cC::cD::cE::cF::cG::cH::cI::cJ::aB::p0::p1::p2::p2::p3::p5::p8::pB::pD::pF::pH::pK::pN::pQ::pT::pV::dB::dC::z) pU)) := by kernel_rfl
def Sb39_3 (I : Nat → V → V → V → V → V → V → V → V → Heap → Prop) : Nat → List V → Heap → Prop := fun i ts H => ts.length = 94 ∧ I i (ts.getD 1 undefV) (ts.getD 5 undefV) (ts.getD 6 undefV) (ts.getD 9 undefV) (ts.getD 10 undefV) (ts.getD 11 undefV) (ts.getD 43 undefV) (ts.getD 44 undefV) H
@[simp] theorem Sb39_3_eq {I : Nat → V → V → V → V → V → V → V → V → Heap → Prop} {i : Nat} : Sb39_3 I i (x0::x1::x2::x3::x4::x5::x6::x7::x8::x9::aA::aB::aC::aD::aE::aF::aG::aH::aI::aJ::aK::aL::aM::aN::aO::aP::aQ::aR::aS::aT::aU::aV::aW::aX::aY::aZ::cA::cB::cC::cD::cE::cF::cG::cH::cI::cJ::cK::cL::cM::cN::cO::cP::cQ::cR::cS::cT::cU::cV::cW::cX::cY::cZ::dA::dB::dC::dD::dE::dF::dG::dH::dI::dJ::dK::dL::dM::dN::dO::dP::dQ::dR::dS::dT::dU::dV::dW::dX::dY::dZ::eA::eB::eC::eD::eE::eF::[]) H = I i x1 x5 x6 x9 aA aB cH cI H := propext ⟨fun h => h.2,fun h => ⟨rfl,h⟩⟩
theorem ub39_3 (M : Nat) (I : Nat → V → V → V → V → V → V → V → V → Heap → Prop) (step : ∀ i,i ≤ M → ∀ (x1 x5 x6 x9 aA aB cH cI : V) (H : Heap),I i x1 x5 x6 x9 aA aB cH cI H → ∀ (x0 x2 x3 x4 x7 x8 aC aD aE aF aG aH aI aJ aK aL aM aN aO aP aQ aR aS aT aU aV aW aX aY aZ cA cB cC cD cE cF cG cJ cK cL cM cN cO cP cQ cR cS cT cU cV cW cX cY cZ dA dB dC dD dE dF dG dH dI dJ dK dL dM dN dO dP dQ dR dS dT dU dV dW dX dY dZ eA eB eC eD eE eF : V),wp G b39_3 (x0::x1::x2::x3::x4::x5::x6::x7::x8::x9::aA::aB::aC::aD::aE::aF::aG::aH::aI::aJ::aK::aL::aM::aN::aO::aP::aQ::aR::aS::aT::aU::aV::aW::aX::aY::aZ::cA::cB::cC::cD::cE::cF::cG::cH::cI::cJ::cK::cL::cM::cN::cO::cP::cQ::cR::cS::cT::cU::cV::cW::cX::cY::cZ::dA::dB::dC::dD::dE::dF::dG::dH::dI::dJ::dK::dL::dM::dN::dO::dP::dQ::dR::dS::dT::dU::dV::dW::dX::dY::dZ::eA::eB::eC::eD::eE::eF::[]) H (upQ M (Sb39_3 I) i Q)) (i : Nat) (hi : i ≤ M) (h : I i x1 x5 x6 x9 aA aB cH cI H) : Lp G b39_3 (x0::x1::x2::x3::x4::x5::x6::x7::x8::x9::aA::aB::aC::aD::aE::aF::aG::aH::aI::aJ::aK::aL::aM::aN::aO::aP::aQ::aR::aS::aT::aU::aV::aW::aX::aY::aZ::cA::cB::cC::cD::cE::cF::cG::cH::cI::cJ::cK::cL::cM::cN::cO::cP::cQ::cR::cS::cT::cU::cV::cW::cX::cY::cZ::dA::dB::dC::dD::dE::dF::dG::dH::dI::dJ::dK::dL::dM::dN::dO::dP::dQ::dR::dS::dT::dU::dV::dW::dX::dY::dZ::eA::eB::eC::eD::eE::eF::[]) H Q :=
  Lp.up (S := Sb39_3 I) (fun i t H hi hS => (congrArg (fun t => wp G b39_3 t H (upQ M (Sb39_3 I) i Q)) (tabF_eq hS.1)).mpr (step i hi _ _ _ _ _ _ _ _ H hS.2 ..)) _ i _ H rfl hi ⟨rfl,h⟩
theorem wr39_4 : wp G r39_4 (x0::x1::x2::x3::x4::x5::x6::x7::x8::x9::aA::aB::aC::aD::aE::aF::aG::aH::aI::aJ::aK::aL::aM::aN::aO::aP::aQ::aR::aS::aT::aU::aV::aW::aX::aY::aZ::cA::cB::cC::cD::cE::cF::cG::cH::cI::cJ::cK::cL::cM::cN::cO::cP::cQ::cR::cS::cT::cU::cV::cW::cX::cY::cZ::dA::dB::dC::dD::dE::dF::dG::dH::dI::dJ::dK::dL::dM::dN::dO::dP::dQ::dR::dS::dT::z) H Q = (
  bd (fadrV 0 x1) fun p0=>
  bd (ldV H p0 1 false) fun p1=>
  bd (binV .eql aB p1) fun p2=>
  ifB p2
   (Q .r (x0::x1::.nils::(.int .i64 30)::x4::x5::x6::x7::x8::x9::aA::aB::aC::aD::aE::aF::aG::aH::aI::aJ::aK::aL::aM::aN::aO::aP::aQ::aR::aS::aT::aU::aV::aW::aX::aY::aZ::cA::cB::cC::cD::cE::cF::cG::cH::cI::cJ::cK::cL::cM::cN::cO::cP::cQ::cR::cS::cT::cU::cV::cW::cX::cY::cZ::dA::dB::dC::aB::p0::p1::p2::dH::dI::dJ::dK::dL::dM::dN::dO::dP::dQ::dR::dS::dT::z) H)
   (bd (iadrV 1 x6 aB) fun p3=>
   true = true ∧ bd (stV H 1 p3 (.bool true)) fun p4=>
   bd2 (bslV 1 1 [(.int .i64 0)] [(0,1,aB)] p4) fun p5 p6=>
   bd2 (appV 1 8 true p6 aA p5) fun p7 p8=>
   bd (iadrV 1 x9 aB) fun p9=>
   bd (ldV p8 p9 1 false) fun pA=>
   bd (lensV pA) fun pB=>
   Lp G b39_5 (x0::x1::x2::x3::x4::x5::x6::x7::x8::x9::p7::aB::aC::aD::aE::aF::aG::aH::aI::aJ::aK::aL::aM::aN::aO::aP::aQ::aR::aS::aT::aU::aV::aW::aX::aY::aZ::cA::cB::cC::cD::cE::cF::cG::cH::cI::cJ::cK::cL::cM::cN::cO::cP::cQ::cR::cS::cT::cU::cV::cW::cX::cY::cZ::dA::dB::dC::aB::p0::p1::p2::x6::aB::p3::aA::aB::p5::p7::x9::aB::p9::pA::pB::(.int .i64 0)::z) p8 (blockQ 6 Q))) := by kernel_rfl
theorem wb39_5 : wp G b39_5 (x0::x1::x2::x3::x4::x5::x6::x7::x8::x9::aA::aB::aC::aD::aE::aF::aG::aH::aI::aJ::aK::aL::aM::aN::aO::aP::aQ::aR::aS::aT::aU::aV::aW::aX::aY::aZ::cA::cB::cC::cD::cE::cF::cG::cH::cI::cJ::cK::cL::cM::cN::cO::cP::cQ::cR::cS::cT::cU::cV::cW::cX::cY::cZ::dA::dB::dC::dD::dE::dF::dG::dH::dI::dJ::dK::dL::dM::dN::dO::dP::dQ::dR::dS::dT::dU::dV::dW::dX::dY::dZ::eA::eB::eC::eD::z) H Q = (
  bd (binV .lss dT dS) fun p0=>
  ifB p0
   (bd (iadrV 1 dR dT) fun p1=>
   bd (ldV H p1 1 false) fun p2=>
   bd (iadrV 1 x5 p2) fun p3=>
   bd (ldV H p3 1 false) fun p4=>
   bd (binV .sub p4 (.int .i64 1)) fun p5=>
   bd (iadrV 1 x5 p2) fun p6=>
   true = true ∧ bd (stV H 1 p6 p5) fun p7=>
   bd (binV .add dT (.int .i64 1)) fun p8=>
   Q .n (x0::x1::x2::x3::x4::x5::x6::x7::x8::x9::aA::aB::aC::p2::aE::aF::aG::aH::aI::aJ::aK::aL::aM::aN::aO::aP::aQ::aR::aS::aT::aU::aV::aW::aX::aY::aZ::cA::cB::cC::cD::cE::cF::cG::cH::cI::cJ::cK::cL::cM::cN::cO::cP::cQ::cR::cS::cT::cU::cV::cW::cX::cY::cZ::dA::dB::dC::dD::dE::dF::dG::dH::dI::dJ::dK::dL::dM::dN::dO::dP::dQ::dR::dS::p8::p0::p1::p2::x5::p2::p3::p4::p5::p6::p8::z) p7)
   (Q (.e 6) (x0::x1::x2::x3::x4::x5::x6::x7::x8::x9::aA::aB::aC::aD::aE::aF::aG::aH::aI::aJ::aK::aL::aM::aN::aO::aP::aQ::aR::aS::aT::aU::aV::aW::aX::aY::aZ::cA::cB::cC::cD::cE::cF::cG::cH::cI::cJ::cK::cL::cM::cN::cO::cP::cQ::cR::cS::cT::cU::cV::cW::cX::cY::cZ::dA::dB::dC::dD::dE::dF::dG::dH::dI::dJ::dK::dL::dM::dN::dO::dP::dQ::dR::dS::dT::p0::dV::dW::dX::dY::dZ::eA::eB::eC::eD::z) H)) := by kernel_rfl
def Sb39_5 (I : Nat → V → V → V → V → V → V → V → V → V → V → Heap → Prop) : Nat → List V → Heap → Prop := fun i ts H => ts.length = 94 ∧ I i (ts.getD 1 undefV) (ts.getD 5 undefV) (ts.getD 6 undefV) (ts.getD 9 undefV) (ts.getD 10 undefV) (ts.getD 43 undefV) (ts.getD 44 undefV) (ts.getD 79 undefV) (ts.getD 80 undefV) (ts.getD 81 undefV) H
@[simp] theorem Sb39_5_eq {I : Nat → V → V → V → V → V → V → V → V → V → V → Heap → Prop} {i : Nat} : Sb39_5 I i (x0::x1::x2::x3::x4::x5::x6::x7::x8::x9::aA::aB::aC::aD::aE::aF::aG::aH::aI::aJ::aK::aL::aM::aN::aO::aP::aQ::aR::aS::aT::aU::aV::aW::aX::aY::aZ::cA::cB::cC::cD::cE::cF::cG::cH::cI::cJ::cK::cL::cM::cN::cO::cP::cQ::cR::cS::cT::cU::cV::cW::cX::cY::cZ::dA::dB::dC::dD::dE::dF::dG::dH::dI::dJ::dK::dL::dM::dN::dO::dP::dQ::dR::dS::dT::dU::dV::dW::dX::dY::dZ::eA::eB::eC::eD::eE::eF::[]) H = I i x1 x5 x6 x9 aA cH cI dR dS dT H := propext ⟨fun h => h.2,fun h => ⟨rfl,h⟩⟩
theorem ub39_5 (M : Nat) (I : Nat → V → V → V → V → V → V → V → V → V → V → Heap → Prop) (step : ∀ i,i ≤ M → ∀ (x1 x5 x6 x9 aA cH cI dR dS dT : V) (H : Heap),I i x1 x5 x6 x9 aA cH cI dR dS dT H → ∀ (x0 x2 x3 x4 x7 x8 aB aC aD aE aF aG aH aI aJ aK aL aM aN aO aP aQ aR aS aT aU aV aW aX aY aZ cA cB cC cD cE cF cG cJ cK cL cM cN cO cP cQ cR cS cT cU cV cW cX cY cZ dA dB dC dD dE dF dG dH dI dJ dK dL dM dN dO dP dQ dU dV dW dX dY dZ eA eB eC eD eE eF : V),wp G b39_5 (x0::x1::x2::x3::x4::x5::x6::x7::x8::x9::aA::aB::aC::aD::aE::aF::aG::aH::aI::aJ::aK::aL::aM::aN::aO::aP::aQ::aR::aS::aT::aU::aV::aW::aX::aY::aZ::cA::cB::cC::cD::cE::cF::cG::cH::cI::cJ::cK::cL::cM::cN::cO::cP::cQ::cR::cS::cT::cU::cV::cW::cX::cY::cZ::dA::dB::dC::dD::dE::dF::dG::dH::dI::dJ::dK::dL::dM::dN::dO::dP::dQ::dR::dS::dT::dU::dV::dW::dX::dY::dZ::eA::eB::eC::eD::eE::eF::[]) H (upQ M (Sb39_5 I) i Q)) (i : Nat) (hi : i ≤ M) (h : I i x1 x5 x6 x9 aA cH cI dR dS dT H) : Lp G b39_5 (x0::x1::x2::x3::x4::x5::x6::x7::x8::x9::aA::aB::aC::aD::aE::aF::aG::aH::aI::aJ::aK::aL::aM::aN::aO::aP::aQ::aR::aS::aT::aU::aV::aW::aX::aY::aZ::cA::cB::cC::cD::cE::cF::cG::cH::cI::cJ::cK::cL::cM::cN::cO::cP::cQ::cR::cS::cT::cU::cV::cW::cX::cY::cZ::dA::dB::dC::dD::dE::dF::dG::dH::dI::dJ::dK::dL::dM::dN::dO::dP::dQ::dR::dS::dT::dU::dV::dW::dX::dY::dZ::eA::eB::eC::eD::eE::eF::[]) H Q :=
  Lp.up (S := Sb39_5 I) (fun i t H hi hS => (congrArg (fun t => wp G b39_5 t H (upQ M (Sb39_5 I) i Q)) (tabF_eq hS.1)).mpr (step i hi _ _ _ _ _ _ _ _ _ _ H hS.2 ..)) _ i _ H rfl hi ⟨rfl,h⟩
theorem wr39_6 : wp G r39_6 (x0::x1::x2::x3::x4::x5::x6::x7::x8::x9::aA::aB::aC::aD::aE::aF::aG::aH::aI::aJ::aK::aL::aM::aN::aO::aP::aQ::aR::aS::aT::aU::aV::aW::aX::aY::aZ::cA::cB::cC::cD::cE::cF::cG::cH::cI::cJ::cK::cL::cM::cN::cO::cP::cQ::cR::cS::cT::cU::cV::cW::cX::cY::cZ::dA::dB::dC::dD::dE::dF::dG::dH::dI::dJ::dK::dL::dM::dN::dO::dP::dQ::dR::dS::dT::dU::dV::dW::dX::dY::dZ::eA::eB::eC::eD::eE::eF::[]) H Q = (
  bd (binV .add cI (.int .i64 1)) fun p0=>
  Q .n (x0::x1::x2::x3::x4::x5::x6::x7::x8::x9::aA::aB::aC::aD::aE::aF::aG::aH::aI::aJ::aK::aL::aM::aN::aO::aP::aQ::aR::aS::aT::aU::aV::aW::aX::aY::aZ::cA::cB::cC::cD::cE::cF::cG::cH::p0::cJ::cK::cL::cM::cN::cO::cP::cQ::cR::cS::cT::cU::cV::cW::cX::cY::cZ::dA::dB::dC::dD::dE::dF::dG::dH::dI::dJ::dK::dL::dM::dN::dO::dP::dQ::dR::dS::dT::dU::dV::dW::dX::dY::dZ::eA::eB::eC::eD::p0::eF::[]) H) := by kernel_rfl
theorem wr39_7 : wp G r39_7 (x0::x1::x2::x3::x4::x5::x6::x7::x8::x9::aA::aB::aC::aD::aE::aF::aG::aH::aI::aJ::aK::aL::aM::aN::aO::aP::aQ::aR::aS::aT::aU::aV::aW::aX::aY::aZ::cA::cB::cC::cD::cE::cF::cG::cH::cI::cJ::cK::cL::cM::cN::cO::cP::cQ::cR::cS::cT::cU::cV::cW::cX::cY::cZ::dA::dB::dC::dD::dE::dF::dG::dH::dI::dJ::dK::dL::dM::dN::dO::dP::dQ::dR::dS::dT::dU::dV::dW::dX::dY::dZ::eA::eB::eC::eD::eE::eF::[]) H Q = (
  Q .r (x0::x1::aA::(.int .i64 0)::x4::x5::x6::x7::x8::x9::aA::aB::aC::aD::aE::aF::aG::aH::aI::aJ::aK::aL::aM::aN::aO::aP::aQ::aR::aS::aT::aU::aV::aW::aX::aY::aZ::cA::cB::cC::cD::cE::cF::cG::cH::cI::cJ::cK::cL::cM::cN::cO::cP::cQ::cR::cS::cT::cU::cV::cW::cX::cY::cZ::dA::dB::dC::dD::dE::dF::dG::dH::dI::dJ::dK::dL::dM::dN::dO::dP::dQ::dR::dS::dT::dU::dV::dW::dX::dY::dZ::eA::eB::eC::eD::eE::aA::[]) H) := by kernel_rfl
theorem w60 : runW G i60 [x0] H k = (
  bd (bxrV x0) fun p0=>
  bd (fadrV 0 p0) fun p1=>
  bd (ldV H p1 1 false) fun p2=>
  bd (binV .lss p2 (.int .i64 0)) fun p3=>
  wpg (gdV p3 false) H (fun k => bd (fadrV 0 p0) fun p4 => k p4 H) fun p5 p6=>
  wpg (gdV p3 false) p6 (fun k => bd (ldV p6 p5 1 false) fun p7 => k p7 p6) fun p8 p9=>
  wpg (gdV p3 false) p9 (fun k => bd (binV .gtr p8 (.int .i64 64)) fun pA => k pA p9) fun pB pC=>
  bd (pickV p3 (.bool true) pB) fun pD=>
  ifB pD
   (k (.int .i64 2) pC)
   (bd (fadrV 1 p0) fun pE=>
   bd (ldV pC pE 1 false) fun pF=>
   bd (lensV pF) fun pG=>
   bd (fadrV 0 p0) fun pH=>
   bd (ldV pC pH 1 false) fun pI=>
   bd (fadrV 0 p0) fun pJ=>
   bd (ldV pC pJ 1 false) fun pK=>
   bd (binV .mul pI pK) fun pL=>
   bd (binV .gtr pG pL) fun pM=>
   ifB pM
    (k (.int .i64 6) pC)
    (bd (fadrV 1 p0) fun pN=>
    bd (ldV pC pN 1 false) fun pO=>
    bd (lensV pO) fun pP=>
    Lp G b60_0 (x0::p0::(.int .i64 0)::undefV::undefV::undefV::pD::p1::p2::p3::p3::p5::p8::pB::pD::pM::pE::pF::pG::pH::pI::pJ::pK::pL::pM::pN::pO::pP::(.int .i64 0)::undefV::undefV::undefV::undefV::undefV::undefV::undefV::undefV::undefV::undefV::undefV::undefV::undefV::undefV::undefV::undefV::undefV::undefV::undefV::undefV::undefV::undefV::undefV::undefV::undefV::undefV::undefV::undefV::undefV::undefV::undefV::undefV::undefV::undefV::undefV::undefV::[]) pC (blockQ 1 (seqQ G r60_1 (retQ i60 k)))))) := by kernel_rfl
@[simp] theorem ret60 : retQ i60 k .r (x0::x1::x2::z) H = k x2 H := nrfl
theorem wb60_0 : wp G b60_0 (x0::x1::x2::x3::x4::x5::x6::x7::x8::x9::aA::aB::aC::aD::aE::aF::aG::aH::aI::aJ::aK::aL::aM::aN::aO::aP::aQ::aR::aS::aT::aU::aV::aW::aX::aY::aZ::cA::cB::cC::cD::cE::cF::cG::cH::cI::z) H Q = (
  bd (binV .lss aS aR) fun p0=>
  ifB p0
   (bd (iadrV 2 aQ aS) fun p1=>
   bd (ldV H p1 2 true) fun p2=>
   newB H (.cells [(.int .i64 0),(.int .i64 0)]) fun p3 p4=>
   true = true ∧ bd (stV p4 2 p3 p2) fun p5=>
   bd2 (frzV p5 p3) fun p6 p7=>
   bd (fadrV 0 x1) fun p8=>
   bd (ldV p7 p8 1 false) fun p9=>
   bd (fadrV 0 p6) fun pA=>
   bd (ldrV pA 1 false) fun pB=>
   (true || G.pur 72) = true ∧ Cl G 72 [p9,pB] p7 fun pC pD=>
   wpg (gdV pC false) pD (fun k => bd (fadrV 0 x1) fun pE => k pE pD) fun pF pG=>
   wpg (gdV pC false) pG (fun k => bd (ldV pG pF 1 false) fun pH => k pH pG) fun pI pJ=>
   wpg (gdV pC false) pJ (fun k => bd (fadrV 1 p6) fun pK => k pK pJ) fun pL pM=>
   wpg (gdV pC false) pM (fun k => bd (ldrV pL 1 false) fun pN => k pN pM) fun pO pP=>
   wpg (gdV pC false) pP (fun k => (true || G.pur 72) = true ∧ Cl G 72 [pI,pO] pP fun pQ pR => k pQ pR) fun pS pT=>
   bd (pickV pC (.bool true) pS) fun pU=>
   ifB pU
    (Q .r (x0::x1::(.int .i64 2)::x3::p6::x5::x6::x7::x8::x9::aA::aB::aC::aD::aE::aF::aG::aH::aI::aJ::aK::aL::aM::aN::aO::aP::aQ::aR::aS::p0::p1::p2::p8::p9::pA::pB::pC::pC::pF::pI::pL::pO::pS::pU::cI::z) pT)
    (bd (binV .add aS (.int .i64 1)) fun pV=>
    Q .n (x0::x1::x2::x3::p6::x5::x6::x7::x8::x9::aA::aB::aC::aD::aE::aF::aG::aH::aI::aJ::aK::aL::aM::aN::aO::aP::aQ::aR::pV::p0::p1::p2::p8::p9::pA::pB::pC::pC::pF::pI::pL::pO::pS::pU::pV::z) pT))
   (Q (.e 1) (x0::x1::x2::x3::x4::x5::x6::x7::x8::x9::aA::aB::aC::aD::aE::aF::aG::aH::aI::aJ::aK::aL::aM::aN::aO::aP::aQ::aR::aS::p0::aU::aV::aW::aX::aY::aZ::cA::cB::cC::cD::cE::cF::cG::cH::cI::z) H)) := by kernel_rfl
def Sb60_0 (I : Nat → V → V → V → V → Heap → Prop) : Nat → List V → Heap → Prop := fun i ts H => ts.length = 65 ∧ I i (ts.getD 1 undefV) (ts.getD 26 undefV) (ts.getD 27 undefV) (ts.getD 28 undefV) H
@[simp] theorem Sb60_0_eq {I : Nat → V → V → V → V → Heap → Prop} {i : Nat} : Sb60_0 I i (x0::x1::x2::x3::x4::x5::x6::x7::x8::x9::aA::aB::aC::aD::aE::aF::aG::aH::aI::aJ::aK::aL::aM::aN::aO::aP::aQ::aR::aS::aT::aU::aV::aW::aX::aY::aZ::cA::cB::cC::cD::cE::cF::cG::cH::cI::cJ::cK::cL::cM::cN::cO::cP::cQ::cR::cS::cT::cU::cV::cW::cX::cY::cZ::dA::dB::dC::[]) H = I i x1 aQ aR aS H := propext ⟨fun h => h.2,fun h => ⟨rfl,h⟩⟩
theorem ub60_0 (M : Nat) (I : Nat → V → V → V → V → Heap → Prop) (step : ∀ i,i ≤ M → ∀ (x1 aQ aR aS : V) (H : Heap),I i x1 aQ aR aS H → ∀ (x0 x2 x3 x4 x5 x6 x7 x8 x9 aA aB aC aD aE aF aG aH aI aJ aK aL aM aN aO aP aT aU aV aW aX aY aZ cA cB cC cD cE cF cG cH cI cJ cK cL cM cN cO cP cQ cR cS cT cU cV cW cX cY cZ dA dB dC : V),wp G b60_0 (x0::x1::x2::x3::x4::x5::x6::x7::x8::x9::aA::aB::aC::aD::aE::aF::aG::aH::aI::aJ::aK::aL::aM::aN::aO::aP::aQ::aR::aS::aT::aU::aV::aW::aX::aY::aZ::cA::cB::cC::cD::cE::cF::cG::cH::cI::cJ::cK::cL::cM::cN::cO::cP::cQ::cR::cS::cT::cU::cV::cW::cX::cY::cZ::dA::dB::dC::[]) H (upQ M (Sb60_0 I) i Q)) (i : Nat) (hi : i ≤ M) (h : I i x1 aQ aR aS H) : Lp G b60_0 (x0::x1::x2::x3::x4::x5::x6::x7::x8::x9::aA::aB::aC::aD::aE::aF::aG::aH::aI::aJ::aK::aL::aM::aN::aO::aP::aQ::aR::aS::aT::aU::aV::aW::aX::aY::aZ::cA::cB::cC::cD::cE::cF::cG::cH::cI::cJ::cK::cL::cM::cN::cO::cP::cQ::cR::cS::cT::cU::cV::cW::cX::cY::cZ::dA::dB::dC::[]) H Q :=
  Lp.up (S := Sb60_0 I) (fun i t H hi hS => (congrArg (fun t => wp G b60_0 t H (upQ M (Sb60_0 I) i Q)) (tabF_eq hS.1)).mpr (step i hi _ _ _ _ H hS.2 ..)) _ i _ H rfl hi ⟨rfl,h⟩
theorem wr60_1 : wp G r60_1 (x0::x1::x2::x3::x4::x5::z) H Q = (
  Lp G b60_2 (x0::x1::x2::x3::x4::(.int .i64 1)::z) H (blockQ 3 (seqQ G r60_3 Q))) := by kernel_rfl
theorem wb60_2 : wp G b60_2 (x0::x1::x2::x3::x4::x5::x6::x7::x8::x9::aA::aB::aC::aD::aE::aF::aG::aH::aI::aJ::aK::aL::aM::aN::aO::aP::aQ::aR::aS::aT::aU::aV::aW::aX::aY::aZ::cA::cB::cC::cD::cE::cF::cG::cH::cI::cJ::cK::cL::cM::cN::cO::cP::cQ::cR::cS::cT::cU::cV::cW::cX::cY::cZ::dA::dB::dC::[]) H Q = (
  bd (fadrV 1 x1) fun p0=>
  bd (ldV H p0 1 false) fun p1=>
  bd (lensV p1) fun p2=>
  bd (binV .lss x5 p2) fun p3=>
  ifB p3
   (bd (fadrV 1 x1) fun p4=>
   bd (ldV H p4 1 false) fun p5=>
   bd (binV .sub x5 (.int .i64 1)) fun p6=>
   bd (iadrV 2 p5 p6) fun p7=>
   bd (ldV H p7 2 true) fun p8=>
   bd (fadrV 1 x1) fun p9=>
   bd (ldV H p9 1 false) fun pA=>
   bd (iadrV 2 pA x5) fun pB=>
   bd (ldV H pB 2 true) fun pC=>
   (true || G.pur 73) = true ∧ Cl G 73 [p8,pC] H fun pD pE=>
   bd (binV .geq pD (.int .i64 0)) fun pF=>
   ifB pF
    (Q .r (x0::x1::(.int .i64 8)::x3::x4::x5::x6::x7::x8::x9::aA::aB::aC::aD::aE::aF::aG::aH::aI::aJ::aK::aL::aM::aN::aO::aP::aQ::aR::aS::aT::aU::aV::aW::aX::aY::aZ::cA::cB::cC::cD::cE::cF::cG::cH::cI::x5::p0::p1::p2::p3::cO::cP::p4::p5::x5::p6::p7::p8::p9::pA::x5::pB::pC::pD::pF::[]) pE)
    (bd (binV .add x5 (.int .i64 1)) fun pG=>
    Q .n (x0::x1::x2::x3::x4::pG::x6::x7::x8::x9::aA::aB::aC::aD::aE::aF::aG::aH::aI::aJ::aK::aL::aM::aN::aO::aP::aQ::aR::aS::aT::aU::aV::aW::aX::aY::aZ::cA::cB::cC::cD::cE::cF::cG::cH::cI::x5::p0::p1::p2::p3::x5::pG::p4::p5::x5::p6::p7::p8::p9::pA::x5::pB::pC::pD::pF::[]) pE))
   (Q (.e 3) (x0::x1::x2::x3::x4::x5::x6::x7::x8::x9::aA::aB::aC::aD::aE::aF::aG::aH::aI::aJ::aK::aL::aM::aN::aO::aP::aQ::aR::aS::aT::aU::aV::aW::aX::aY::aZ::cA::cB::cC::cD::cE::cF::cG::cH::cI::x5::p0::p1::p2::p3::cO::cP::cQ::cR::cS::cT::cU::cV::cW::cX::cY::cZ::dA::dB::dC::[]) H)) := by kernel_rfl
def Sb60_2 (I : Nat → V → V → Heap → Prop) : Nat → List V → Heap → Prop := fun i ts H => ts.length = 65 ∧ I i (ts.getD 1 undefV) (ts.getD 5 undefV) H
@[simp] theorem Sb60_2_eq {I : Nat → V → V → Heap → Prop} {i : Nat} : Sb60_2 I i (x0::x1::x2::x3::x4::x5::x6::x7::x8::x9::aA::aB::aC::aD::aE::aF::aG::aH::aI::aJ::aK::aL::aM::aN::aO::aP::aQ::aR::aS::aT::aU::aV::aW::aX::aY::aZ::cA::cB::cC::cD::cE::cF::cG::cH::cI::cJ::cK::cL::cM::cN::cO::cP::cQ::cR::cS::cT::cU::cV::cW::cX::cY::cZ::dA::dB::dC::[]) H = I i x1 x5 H := propext ⟨fun h => h.2,fun h => ⟨rfl,h⟩⟩
theorem ub60_2 (M : Nat) (I : Nat → V → V → Heap → Prop) (step : ∀ i,i ≤ M → ∀ (x1 x5 : V) (H : Heap),I i x1 x5 H → ∀ (x0 x2 x3 x4 x6 x7 x8 x9 aA aB aC aD aE aF aG aH aI aJ aK aL aM aN aO aP aQ aR aS aT aU aV aW aX aY aZ cA cB cC cD cE cF cG cH cI cJ cK cL cM cN cO cP cQ cR cS cT cU cV cW cX cY cZ dA dB dC : V),wp G b60_2 (x0::x1::x2::x3::x4::x5::x6::x7::x8::x9::aA::aB::aC::aD::aE::aF::aG::aH::aI::aJ::aK::aL::aM::aN::aO::aP::aQ::aR::aS::aT::aU::aV::aW::aX::aY::aZ::cA::cB::cC::cD::cE::cF::cG::cH::cI::cJ::cK::cL::cM::cN::cO::cP::cQ::cR::cS::cT::cU::cV::cW::cX::cY::cZ::dA::dB::dC::[]) H (upQ M (Sb60_2 I) i Q)) (i : Nat) (hi : i ≤ M) (h : I i x1 x5 H) : Lp G b60_2 (x0::x1::x2::x3::x4::x5::x6::x7::x8::x9::aA::aB::aC::aD::aE::aF::aG::aH::aI::aJ::aK::aL::aM::aN::aO::aP::aQ::aR::aS::aT::aU::aV::aW::aX::aY::aZ::cA::cB::cC::cD::cE::cF::cG::cH::cI::cJ::cK::cL::cM::cN::cO::cP::cQ::cR::cS::cT::cU::cV::cW::cX::cY::cZ::dA::dB::dC::[]) H Q :=
  Lp.up (S := Sb60_2 I) (fun i t H hi hS => (congrArg (fun t => wp G b60_2 t H (upQ M (Sb60_2 I) i Q)) (tabF_eq hS.1)).mpr (step i hi _ _ H hS.2 ..)) _ i _ H rfl hi ⟨rfl,h⟩
theorem wr60_3 : wp G r60_3 (x0::x1::x2::z) H Q = (
  Q .r (x0::x1::(.int .i64 0)::z) H) := by kernel_rfl
theorem w61 : runW G i61 [x0] H k = (
  bd (bxrV x0) fun p0=>
  bd (fadrV 0 p0) fun p1=>
  bd (ldV H p1 1 false) fun p2=>
  bd2 (mksV 1 24 [.nils] H p2 p2) fun p3 p4=>
  bd (fadrV 1 p0) fun p5=>
  bd (ldV p4 p5 1 false) fun p6=>
  bd (lensV p6) fun p7=>
  Lp G b61_0 [x0,p0,.nils,p3,undefV,undefV,p1,p2,p3,p5,p6,p7,(.int .i64 0),undefV,undefV,undefV,undefV,undefV,undefV,undefV,undefV,undefV,undefV,undefV,undefV,undefV,undefV,undefV,undefV,undefV,undefV] p4 (blockQ 0 (seqQ G r61_1 (retQ i61 k)))) := by kernel_rfl
@[simp] theorem ret61 : retQ i61 k .r (x0::x1::x2::z) H = k x2 H := nrfl
theorem wb61_0 : wp G b61_0 [x0,x1,x2,x3,x4,x5,x6,x7,x8,x9,aA,aB,aC,aD,aE,aF,aG,aH,aI,aJ,aK,aL,aM,aN,aO,aP,aQ,aR,aS,aT,aU] H Q = (
  bd (binV .lss aC aB) fun p0=>
  ifB p0
   (bd (iadrV 2 aA aC) fun p1=>
   bd (ldV H p1 2 true) fun p2=>
   newB H (.cells [(.int .i64 0),(.int .i64 0)]) fun p3 p4=>
   true = true ∧ bd (stV p4 2 p3 p2) fun p5=>
   bd2 (frzV p5 p3) fun p6 p7=>
   bd (fadrV 0 p6) fun p8=>
   bd (ldrV p8 1 false) fun p9=>
   bd (fadrV 0 p6) fun pA=>
   bd (ldrV pA 1 false) fun pB=>
   bd (iadrV 1 x3 pB) fun pC=>
   bd (ldV p7 pC 1 false) fun pD=>
   bd (fadrV 1 p6) fun pE=>
   bd (ldrV pE 1 false) fun pF=>
   bd2 (bslV 1 1 [(.int .i64 0)] [(0,1,pF)] p7) fun pG pH=>
   bd2 (appV 1 8 true pH pD pG) fun pI pJ=>
   bd (iadrV 1 x3 p9) fun pK=>
   true = true ∧ bd (stV pJ 1 pK pI) fun pL=>
   bd (binV .add aC (.int .i64 1)) fun pM=>
   Q .n [x0,x1,x2,x3,x4,p6,x6,x7,x8,x9,aA,aB,pM,p0,p1,p2,x3,p8,p9,x3,pA,pB,pC,pD,pE,pF,pG,pI,pK,pM,aU] pL)
   (Q (.e 0) [x0,x1,x2,x3,x4,x5,x6,x7,x8,x9,aA,aB,aC,p0,aE,aF,aG,aH,aI,aJ,aK,aL,aM,aN,aO,aP,aQ,aR,aS,aT,aU] H)) := by kernel_rfl
def Sb61_0 (I : Nat → V → V → V → V → Heap → Prop) : Nat → List V → Heap → Prop := fun i ts H => ts.length = 31 ∧ I i (ts.getD 3 undefV) (ts.getD 10 undefV) (ts.getD 11 undefV) (ts.getD 12 undefV) H
@[simp] theorem Sb61_0_eq {I : Nat → V → V → V → V → Heap → Prop} {i : Nat} : Sb61_0 I i [x0,x1,x2,x3,x4,x5,x6,x7,x8,x9,aA,aB,aC,aD,aE,aF,aG,aH,aI,aJ,aK,aL,aM,aN,aO,aP,aQ,aR,aS,aT,aU] H = I i x3 aA aB aC H := propext ⟨fun h => h.2,fun h => ⟨rfl,h⟩⟩
theorem ub61_0 (M : Nat) (I : Nat → V → V → V → V → Heap → Prop) (step : ∀ i,i ≤ M → ∀ (x3 aA aB aC : V) (H : Heap),I i x3 aA aB aC H → ∀ (x0 x1 x2 x4 x5 x6 x7 x8 x9 aD aE aF aG aH aI aJ aK aL aM aN aO aP aQ aR aS aT aU : V),wp G b61_0 [x0,x1,x2,x3,x4,x5,x6,x7,x8,x9,aA,aB,aC,aD,aE,aF,aG,aH,aI,aJ,aK,aL,aM,aN,aO,aP,aQ,aR,aS,aT,aU] H (upQ M (Sb61_0 I) i Q)) (i : Nat) (hi : i ≤ M) (h : I i x3 aA aB aC H) : Lp G b61_0 [x0,x1,x2,x3,x4,x5,x6,x7,x8,x9,aA,aB,aC,aD,aE,aF,aG,aH,aI,aJ,aK,aL,aM,aN,aO,aP,aQ,aR,aS,aT,aU] H Q :=
  Lp.up (S := Sb61_0 I) (fun i t H hi hS => (congrArg (fun t => wp G b61_0 t H (upQ M (Sb61_0 I) i Q)) (tabF_eq hS.1)).mpr (step i hi _ _ _ _ H hS.2 ..)) _ i _ H rfl hi ⟨rfl,h⟩
theorem wr61_1 : wp G r61_1 [x0,x1,x2,x3,x4,x5,x6,x7,x8,x9,aA,aB,aC,aD,aE,aF,aG,aH,aI,aJ,aK,aL,aM,aN,aO,aP,aQ,aR,aS,aT,aU] H Q = (
  Q .r [x0,x1,x3,x3,x4,x5,x6,x7,x8,x9,aA,aB,aC,aD,aE,aF,aG,aH,aI,aJ,aK,aL,aM,aN,aO,aP,aQ,aR,aS,aT,x3] H) := by kernel_rfl
theorem w62 : runW G i62 [x0,x1] H k = (
  newB H (.cells [(.int .i64 0),.nils]) fun p0 p1=>
  bd (binV .lss x0 (.int .i64 0)) fun p2=>
  wpg (gdV p2 false) p1 (fun k => k x0 p1) fun p3 p4=>
  wpg (gdV p2 false) p4 (fun k => bd (binV .gtr p3 (.int .i64 64)) fun p5 => k p5 p4) fun p6 p7=>
  bd (pickV p2 (.bool true) p6) fun p8=>
  ifB p8
   (bd (bldV [(.int .i64 0),.nils] []) fun p9=>
   true = true ∧ bd (stV p7 2 p0 p9) fun pA=>
   bd (resultV [x0,x1,undefV,undefV,p0,(.int .i64 2),undefV,undefV,undefV,x0,p2,p2,p3,p6,p8,p9,undefV,undefV,undefV,undefV,undefV,undefV,undefV,undefV,undefV,undefV,undefV,undefV,undefV,undefV,undefV,undefV,undefV,undefV,undefV,undefV,undefV,undefV,undefV,undefV,undefV,undefV] pA i62.res) fun v => k v pA)
   (bd (lensV x1) fun pB=>
   Lp G b62_0 [x0,x1,undefV,undefV,p0,(.int .i64 0),undefV,undefV,undefV,x0,p2,p2,p3,p6,p8,undefV,x1,pB,(.int .i64 0),undefV,undefV,undefV,undefV,undefV,undefV,undefV,undefV,undefV,undefV,undefV,undefV,undefV,undefV,undefV,undefV,undefV,undefV,undefV,undefV,undefV,undefV,undefV] p7 (blockQ 0 (seqQ G r62_1 (retQ i62 k))))) := by kernel_rfl
@[simp] theorem ret62 : retQ i62 k .r (z) H = bd (resultV (z) H [.cell 4 2 true,.t 5]) fun v => k v H := nrfl
theorem wb62_0 : wp G b62_0 (x0::x1::x2::x3::x4::x5::x6::x7::x8::x9::aA::aB::aC::aD::aE::aF::aG::aH::aI::aJ::aK::aL::aM::aN::aO::aP::aQ::aR::aS::aT::aU::aV::aW::aX::z) H Q = (
  bd (binV .lss aI aH) fun p0=>
  ifB p0
   (bd (iadrV 2 aG aI) fun p1=>
   bd (ldV H p1 2 true) fun p2=>
   newB H (.cells [(.int .i64 0),(.int .i64 0)]) fun p3 p4=>
   true = true ∧ bd (stV p4 2 p3 p2) fun p5=>
   bd2 (frzV p5 p3) fun p6 p7=>
   bd (fadrV 0 p6) fun p8=>
   bd (ldrV p8 1 false) fun p9=>
   (true || G.pur 72) = true ∧ Cl G 72 [x0,p9] p7 fun pA pB=>
   wpg (gdV pA false) pB (fun k => k x0 pB) fun pC pD=>
   wpg (gdV pA false) pD (fun k => bd (fadrV 1 p6) fun pE => k pE pD) fun pF pG=>
   wpg (gdV pA false) pG (fun k => bd (ldrV pF 1 false) fun pH => k pH pG) fun pI pJ=>
   wpg (gdV pA false) pJ (fun k => (true || G.pur 72) = true ∧ Cl G 72 [pC,pI] pJ fun pK pL => k pK pL) fun pM pN=>
   bd (pickV pA (.bool true) pM) fun pO=>
   ifB pO
    (bd (bldV [(.int .i64 0),.nils] []) fun pP=>
    true = true ∧ bd (stV pN 2 x4 pP) fun pQ=>
    Q .r (x0::x1::x2::x3::x4::(.int .i64 2)::x6::p6::x8::x9::aA::aB::aC::aD::aE::aF::aG::aH::aI::p0::p1::p2::x0::p8::p9::pA::pA::pC::pF::pI::pM::pO::pP::aX::z) pQ)
    (bd (binV .add aI (.int .i64 1)) fun pR=>
    Q .n (x0::x1::x2::x3::x4::x5::x6::p6::x8::x9::aA::aB::aC::aD::aE::aF::aG::aH::pR::p0::p1::p2::x0::p8::p9::pA::pA::pC::pF::pI::pM::pO::aW::pR::z) pN))
   (Q (.e 0) (x0::x1::x2::x3::x4::x5::x6::x7::x8::x9::aA::aB::aC::aD::aE::aF::aG::aH::aI::p0::aK::aL::aM::aN::aO::aP::aQ::aR::aS::aT::aU::aV::aW::aX::z) H)) := by kernel_rfl
def Sb62_0 (I : Nat → V → V → V → V → V → V → Heap → Prop) : Nat → List V → Heap → Prop := fun i ts H => ts.length = 42 ∧ I i (ts.getD 0 undefV) (ts.getD 1 undefV) (ts.getD 4 undefV) (ts.getD 16 undefV) (ts.getD 17 undefV) (ts.getD 18 undefV) H
@[simp] theorem Sb62_0_eq {I : Nat → V → V → V → V → V → V → Heap → Prop} {i : Nat} : Sb62_0 I i [x0,x1,x2,x3,x4,x5,x6,x7,x8,x9,aA,aB,aC,aD,aE,aF,aG,aH,aI,aJ,aK,aL,aM,aN,aO,aP,aQ,aR,aS,aT,aU,aV,aW,aX,aY,aZ,cA,cB,cC,cD,cE,cF] H = I i x0 x1 x4 aG aH aI H := propext ⟨fun h => h.2,fun h => ⟨rfl,h⟩⟩
theorem ub62_0 (M : Nat) (I : Nat → V → V → V → V → V → V → Heap → Prop) (step : ∀ i,i ≤ M → ∀ (x0 x1 x4 aG aH aI : V) (H : Heap),I i x0 x1 x4 aG aH aI H → ∀ (x2 x3 x5 x6 x7 x8 x9 aA aB aC aD aE aF aJ aK aL aM aN aO aP aQ aR aS aT aU aV aW aX aY aZ cA cB cC cD cE cF : V),wp G b62_0 [x0,x1,x2,x3,x4,x5,x6,x7,x8,x9,aA,aB,aC,aD,aE,aF,aG,aH,aI,aJ,aK,aL,aM,aN,aO,aP,aQ,aR,aS,aT,aU,aV,aW,aX,aY,aZ,cA,cB,cC,cD,cE,cF] H (upQ M (Sb62_0 I) i Q)) (i : Nat) (hi : i ≤ M) (h : I i x0 x1 x4 aG aH aI H) : Lp G b62_0 [x0,x1,x2,x3,x4,x5,x6,x7,x8,x9,aA,aB,aC,aD,aE,aF,aG,aH,aI,aJ,aK,aL,aM,aN,aO,aP,aQ,aR,aS,aT,aU,aV,aW,aX,aY,aZ,cA,cB,cC,cD,cE,cF] H Q :=
  Lp.up (S := Sb62_0 I) (fun i t H hi hS => (congrArg (fun t => wp G b62_0 t H (upQ M (Sb62_0 I) i Q)) (tabF_eq hS.1)).mpr (step i hi _ _ _ _ _ _ H hS.2 ..)) _ i _ H rfl hi ⟨rfl,h⟩
theorem wr62_1 : wp G r62_1 [x0,x1,x2,x3,x4,x5,x6,x7,x8,x9,aA,aB,aC,aD,aE,aF,aG,aH,aI,aJ,aK,aL,aM,aN,aO,aP,aQ,aR,aS,aT,aU,aV,aW,aX,aY,aZ,cA,cB,cC,cD,cE,cF] H Q = (
  (true || G.pur 74) = true ∧ Cl G 74 [x1] H fun p0 p1=>
  (true || G.pur 75) = true ∧ Cl G 75 [p0,(.fn 73 [])] p1 fun p2 p3=>
  (true || G.pur 76) = true ∧ Cl G 76 [p0] p3 fun p4 p5=>
  bd (bldV [(.int .i64 0),.nils] [(0,1,x0),(1,1,p4)]) fun p6=>
  true = true ∧ bd (stV p5 2 x4 p6) fun p7=>
  Q .r [x0,x1,x2,x3,x4,(.int .i64 0),x6,x7,p0,x9,aA,aB,aC,aD,aE,aF,aG,aH,aI,aJ,aK,aL,aM,aN,aO,aP,aQ,aR,aS,aT,aU,aV,aW,aX,x1,p0,p0,p2,x0,p0,p4,p6] p7) := by kernel_rfl
theorem w72 : runW G i72 [x0,x1] H k = (
  bd (binV .lss x1 (.int .i64 0)) fun p0=>
  wpg (gdV p0 false) H (fun k => k x1 H) fun p1 p2=>
  wpg (gdV p0 false) p2 (fun k => k x0 p2) fun p3 p4=>
  wpg (gdV p0 false) p4 (fun k => bd (binV .geq p1 p3) fun p5 => k p5 p4) fun p6 p7=>
  bd (pickV p0 (.bool true) p6) fun p8=>
  k p8 p7) := by kernel_rfl
theorem w73 : runW G i73 [x0,x1] H k = (
  bd (bxrV x0) fun p0=>
  bd (bxrV x1) fun p1=>
  bd (fadrV 0 p0) fun p2=>
  bd (ldV H p2 1 false) fun p3=>
  bd (fadrV 0 p1) fun p4=>
  bd (ldV H p4 1 false) fun p5=>
  (false || G.pur 82) = true ∧ Cl G 82 [p3,p5] H fun p6 p7=>
  bd (fadrV 1 p0) fun p8=>
  bd (ldV p7 p8 1 false) fun p9=>
  bd (fadrV 1 p1) fun pA=>
  bd (ldV p7 pA 1 false) fun pB=>
  (true || G.pur 82) = true ∧ Cl G 82 [p9,pB] p7 fun pC pD=>
  bd2 (bslV 1 2 [(.int .i64 0)] [(0,1,p6),(1,1,pC)] pD) fun pE pF=>
  (true || G.pur 81) = true ∧ Cl G 81 [pE] pF fun pG pH=>
  k pG pH) := by kernel_rfl
theorem w74 : runW G i74 [x0] H k = (
  bd (eqnV .slice false x0 .nils) fun p0=>
  ifB p0
   (k .nils H)
   (bd2 (bslV 2 0 [(.int .i64 0),(.int .i64 0)] [] H) fun p1 p2=>
   bd2 (appV 2 16 true p2 p1 x0) fun p3 p4=>
   k p3 p4)) := by kernel_rfl
theorem w75 : runW G i75 [x0,x1] H k = (
  bd (lensV x0) fun p0=>
  bd (convV .u64 p0) fun p1=>
  (true || G.pur 84) = true ∧ Cl G 84 [p1] H fun p2 p3=>
  (true || G.pur 83) = true ∧ Cl G 83 [x0,(.int .i64 0),p0,p2,x1] p3 fun p4 p5=>
  k (.tup []) p5) := by kernel_rfl
theorem w76 : runW G i76 [x0] H k = (
  bd (lensV x0) fun p0=>
  bd (binV .lss p0 (.int .i64 2)) fun p1=>
  ifB p1
   (k x0 H)
   (Lp G b76_0 (x0::undefV::.nils::(.int .i64 1)::undefV::undefV::x0::p0::p1::undefV::undefV::undefV::undefV::undefV::undefV::undefV::undefV::undefV::undefV::undefV::undefV::undefV::undefV::undefV::undefV::undefV::undefV::undefV::undefV::undefV::undefV::undefV::undefV::undefV::undefV::undefV::undefV::undefV::undefV::undefV::undefV::undefV::undefV::undefV::undefV::undefV::undefV::undefV::undefV::undefV::undefV::undefV::undefV::undefV::undefV::undefV::undefV::undefV::undefV::undefV::undefV::[]) H (blockQ 0 (seqQ G r76_5 (retQ i76 k))))) := by kernel_rfl
@[simp] theorem ret76 : retQ i76 k .r (x0::x1::x2::z) H = k x2 H := nrfl
theorem wb76_0 : wp G b76_0 (x0::x1::x2::x3::x4::x5::x6::x7::x8::x9::aA::aB::aC::aD::aE::aF::aG::aH::aI::aJ::aK::aL::aM::aN::aO::aP::aQ::aR::aS::z) H Q = (
  bd (lensV x0) fun p0=>
  bd (binV .lss x3 p0) fun p1=>
  ifB p1
   (bd (iadrV 2 x0 x3) fun p2=>
   bd (ldV H p2 2 true) fun p3=>
   bd (binV .sub x3 (.int .i64 1)) fun p4=>
   bd (iadrV 2 x0 p4) fun p5=>
   bd (ldV H p5 2 true) fun p6=>
   bd (eqnV (.flat [.i,.i]) false p3 p6) fun p7=>
   ifB p7
    (bd (slcV 2 x0 (some x3) none none) fun p8=>
    Lp G b76_1 (x0::x1::x2::x3::p8::(.int .i64 1)::x6::x7::x8::x9::x3::x0::p0::p1::aE::aF::x0::x3::p2::p3::x0::x3::p4::p5::p6::p7::x0::x3::p8::z) H (blockQ 2 (seqQ G r76_3 (blockQ 1 (seqQ G r76_4 Q)))))
    (wp G r76_4 (x0::x1::x2::x3::x4::x5::x6::x7::x8::x9::x3::x0::p0::p1::aE::aF::x0::x3::p2::p3::x0::x3::p4::p5::p6::p7::aQ::aR::aS::z) H Q))
   (Q (.e 0) (x0::x1::x2::x3::x4::x5::x6::x7::x8::x9::x3::x0::p0::p1::aE::aF::aG::aH::aI::aJ::aK::aL::aM::aN::aO::aP::aQ::aR::aS::z) H)) := by kernel_rfl
def Sb76_0 (I : Nat → V → V → Heap → Prop) : Nat → List V → Heap → Prop := fun i ts H => ts.length = 61 ∧ I i (ts.getD 0 undefV) (ts.getD 3 undefV) H
@[simp] theorem Sb76_0_eq {I : Nat → V → V → Heap → Prop} {i : Nat} : Sb76_0 I i (x0::x1::x2::x3::x4::x5::x6::x7::x8::x9::aA::aB::aC::aD::aE::aF::aG::aH::aI::aJ::aK::aL::aM::aN::aO::aP::aQ::aR::aS::aT::aU::aV::aW::aX::aY::aZ::cA::cB::cC::cD::cE::cF::cG::cH::cI::cJ::cK::cL::cM::cN::cO::cP::cQ::cR::cS::cT::cU::cV::cW::cX::cY::[]) H = I i x0 x3 H := propext ⟨fun h => h.2,fun h => ⟨rfl,h⟩⟩
theorem ub76_0 (M : Nat) (I : Nat → V → V → Heap → Prop) (step : ∀ i,i ≤ M → ∀ (x0 x3 : V) (H : Heap),I i x0 x3 H → ∀ (x1 x2 x4 x5 x6 x7 x8 x9 aA aB aC aD aE aF aG aH aI aJ aK aL aM aN aO aP aQ aR aS aT aU aV aW aX aY aZ cA cB cC cD cE cF cG cH cI cJ cK cL cM cN cO cP cQ cR cS cT cU cV cW cX cY : V),wp G b76_0 (x0::x1::x2::x3::x4::x5::x6::x7::x8::x9::aA::aB::aC::aD::aE::aF::aG::aH::aI::aJ::aK::aL::aM::aN::aO::aP::aQ::aR::aS::aT::aU::aV::aW::aX::aY::aZ::cA::cB::cC::cD::cE::cF::cG::cH::cI::cJ::cK::cL::cM::cN::cO::cP::cQ::cR::cS::cT::cU::cV::cW::cX::cY::[]) H (upQ M (Sb76_0 I) i Q)) (i : Nat) (hi : i ≤ M) (h : I i x0 x3 H) : Lp G b76_0 (x0::x1::x2::x3::x4::x5::x6::x7::x8::x9::aA::aB::aC::aD::aE::aF::aG::aH::aI::aJ::aK::aL::aM::aN::aO::aP::aQ::aR::aS::aT::aU::aV::aW::aX::aY::aZ::cA::cB::cC::cD::cE::cF::cG::cH::cI::cJ::cK::cL::cM::cN::cO::cP::cQ::cR::cS::cT::cU::cV::cW::cX::cY::[]) H Q :=
  Lp.up (S := Sb76_0 I) (fun i t H hi hS => (congrArg (fun t => wp G b76_0 t H (upQ M (Sb76_0 I) i Q)) (tabF_eq hS.1)).mpr (step i hi _ _ H hS.2 ..)) _ i _ H rfl hi ⟨rfl,h⟩
theorem wr76_4 : wp G r76_4 (x0::x1::x2::x3::x4::x5::x6::x7::x8::x9::aA::aB::aC::aD::aE::aF::z) H Q = (
  bd (binV .add x3 (.int .i64 1)) fun p0=>
  Q .n (x0::x1::x2::p0::x4::x5::x6::x7::x8::x9::aA::aB::aC::aD::x3::p0::z) H) := by kernel_rfl
theorem wr76_5 : wp G r76_5 (x0::x1::x2::x3::x4::x5::x6::x7::x8::x9::aA::aB::aC::aD::aE::aF::aG::aH::aI::aJ::aK::aL::aM::aN::aO::aP::aQ::aR::aS::aT::aU::aV::aW::aX::aY::aZ::cA::cB::cC::cD::cE::cF::cG::cH::cI::cJ::cK::cL::cM::cN::cO::cP::cQ::cR::cS::cT::cU::cV::cW::cX::cY::[]) H Q = (
  Q .r (x0::x1::x0::x3::x4::x5::x6::x7::x8::x9::aA::aB::aC::aD::aE::aF::aG::aH::aI::aJ::aK::aL::aM::aN::aO::aP::aQ::aR::aS::aT::aU::aV::aW::aX::aY::aZ::cA::cB::cC::cD::cE::cF::cG::cH::cI::cJ::cK::cL::cM::cN::cO::cP::cQ::cR::cS::cT::cU::cV::cW::cX::x0::[]) H) := by kernel_rfl
theorem w81 : runW G i81 [x0] H k = (
  bd (lensV x0) fun p0=>
  Lp G b81_0 [x0,undefV,(.int .i64 0),(.int .i64 0),undefV,undefV,x0,p0,(.int .i64 0),undefV,undefV,undefV,undefV,undefV,undefV,undefV,undefV,undefV] H (blockQ 0 (seqQ G r81_1 (retQ i81 k)))) := by kernel_rfl
@[simp] theorem ret81 : retQ i81 k .r (x0::x1::x2::z) H = k x2 H := nrfl
theorem wb81_0 : wp G b81_0 [x0,x1,x2,x3,x4,x5,x6,x7,x8,x9,aA,aB,aC,aD,aE,aF,aG,aH] H Q = (
  bd (binV .lss x8 x7) fun p0=>
  ifB p0
   (bd (iadrV 1 x6 x8) fun p1=>
   bd (ldV H p1 1 false) fun p2=>
   bd (binV .neq p2 x3) fun p3=>
   ifB p3
    (Q .r [x0,x1,p2,x3,x4,p2,x6,x7,x8,p0,p1,p2,p2,x3,p3,p2,aG,aH] H)
    (bd (binV .add x8 (.int .i64 1)) fun p4=>
    Q .n [x0,x1,x2,x3,x4,p2,x6,x7,p4,p0,p1,p2,p2,x3,p3,aF,p4,aH] H))
   (Q (.e 0) [x0,x1,x2,x3,x4,x5,x6,x7,x8,p0,aA,aB,aC,aD,aE,aF,aG,aH] H)) := by kernel_rfl
theorem wr81_1 : wp G r81_1 [x0,x1,x2,x3,x4,x5,x6,x7,x8,x9,aA,aB,aC,aD,aE,aF,aG,aH] H Q = (
  Q .r [x0,x1,x3,x3,x4,x5,x6,x7,x8,x9,aA,aB,aC,aD,aE,aF,aG,x3] H) := by kernel_rfl
theorem w82 : runW G i82 [x0,x1] H k = (
  (true || G.pur 86) = true ∧ Cl G 86 [x0] H fun p0 p1=>
  (true || G.pur 86) = true ∧ Cl G 86 [x1] p1 fun p2 p3=>
  ifB p0
   (ifB p2
    (k (.int .i64 0) p3)
    (k (.int .i64 (-1)) p3))
   (ifB p2
    (k (.int .i64 1) p3)
    (bd (binV .lss x0 x1) fun p4=>
    ifB p4
     (k (.int .i64 (-1)) p3)
     (bd (binV .gtr x0 x1) fun p5=>
     ifB p5
      (k (.int .i64 1) p3)
      (k (.int .i64 0) p3))))) := by kernel_rfl
theorem w86 : runW G i86 [x0] H k = (
  bd (binV .neq x0 x0) fun p0=>
  k p0 H) := by kernel_rfl
end
end Go.Proofs.Ytoommmeapdkopaa.E
set_option maxRecDepth 20000
namespace Go.Proofs.Ytoommmeapdkopaa.E
open Go Go.Eng
section
variable {z : List V} {x0 x1 x2 x3 x4 x5 x6 x7 x8 x9 aA aB aC aD aE aF aG aH aI aJ aK aL aM aN aO aP aQ aR aS aT aU aV aW aX aY aZ cA cB cC cD cE cF cG cH cI cJ cK cL cM cN cO cP cQ cR cS cT cU cV cW cX cY cZ dA dB dC dD dE dF dG dH dI dJ dK dL dM dN dO dP dQ dR dS dT dU dV dW dX dY dZ eA eB eC eD eE eF eG eH eI eJ eK eL eM eN eO eP eQ eR eS eT eU eV eW eX eY eZ fA fB fC fD fE fF fG fH fI fJ fK fL fM fN fO fP fQ fR fS fT fU fV fW fX fY fZ gA gB gC gD gE gF gG gH gI gJ gK gL gM gN gO gP gQ gR gS gT gU gV gW gX gY gZ hA hB hC hD hE hF hG hH hI hJ hK hL : V} {H : Heap} {k : V → Heap → Prop} {Q : Cont}
theorem w83 : runW G i83 [x0,x1,x2,x3,x4] H k = (
  Lp G b83_0 (x0::x1::x2::x3::x4::undefV::undefV::undefV::undefV::undefV::(.bool true)::(.bool true)::undefV::undefV::undefV::undefV::undefV::undefV::undefV::undefV::undefV::undefV::undefV::undefV::undefV::undefV::undefV::undefV::undefV::undefV::undefV::undefV::undefV::undefV::undefV::undefV::undefV::undefV::undefV::undefV::undefV::undefV::undefV::undefV::undefV::undefV::undefV::undefV::undefV::undefV::undefV::undefV::undefV::undefV::undefV::undefV::undefV::undefV::undefV::undefV::undefV::undefV::undefV::undefV::undefV::undefV::undefV::undefV::undefV::undefV::undefV::undefV::undefV::undefV::undefV::undefV::undefV::undefV::undefV::undefV::undefV::undefV::undefV::undefV::undefV::undefV::undefV::undefV::undefV::undefV::undefV::undefV::undefV::undefV::undefV::undefV::undefV::undefV::undefV::undefV::undefV::undefV::undefV::undefV::undefV::undefV::undefV::undefV::undefV::undefV::undefV::undefV::undefV::undefV::undefV::undefV::undefV::undefV::undefV::undefV::undefV::undefV::undefV::undefV::undefV::undefV::undefV::undefV::undefV::undefV::undefV::undefV::undefV::undefV::undefV::undefV::undefV::undefV::undefV::undefV::undefV::undefV::undefV::undefV::undefV::undefV::undefV::undefV::[]) H (blockQ 0 (retQ i83 k))) := by kernel_rfl
@[simp] theorem ret83 : retQ i83 k .r (z) H = k (.tup []) H := nrfl
theorem wb83_0 : wp G b83_0 (x0::x1::x2::x3::x4::x5::x6::x7::x8::x9::aA::aB::aC::aD::aE::aF::aG::aH::aI::aJ::aK::aL::aM::aN::aO::aP::aQ::aR::aS::aT::aU::aV::aW::aX::aY::aZ::cA::cB::cC::cD::cE::cF::cG::cH::cI::cJ::cK::z) H Q = (
  bd (binV .sub x2 x1) fun p0=>
  bd (binV .leq p0 (.int .i64 12)) fun p1=>
  ifB p1
   ((true || G.pur 87) = true ∧ Cl G 87 [x0,x1,x2,x4] H fun p2 p3=>
   Q .r (x0::x1::x2::x3::x4::x5::x6::x7::x8::x9::aA::aB::p0::aD::aE::aF::aG::aH::aI::aJ::aK::x2::x1::p0::p0::p1::x0::x1::x2::x4::p2::aV::aW::aX::aY::aZ::cA::cB::cC::cD::cE::cF::cG::cH::cI::cJ::cK::z) p3)
   (bd (binV .eql x3 (.int .i64 0)) fun p4=>
   ifB p4
    ((true || G.pur 88) = true ∧ Cl G 88 [x0,x1,x2,x4] H fun p5 p6=>
    Q .r (x0::x1::x2::x3::x4::x5::x6::x7::x8::x9::aA::aB::p0::aD::aE::aF::aG::aH::aI::aJ::aK::x2::x1::p0::p0::p1::aQ::aR::aS::aT::aU::x3::p4::x0::x1::x2::x4::p5::cC::cD::cE::cF::cG::cH::cI::cJ::cK::z) p6)
    (bd (unV .not aA) fun p7=>
    ifB p7
     ((true || G.pur 89) = true ∧ Cl G 89 [x0,x1,x2,x4] H fun p8 p9=>
     bd (binV .sub x3 (.int .i64 1)) fun pA=>
     wp G r83_1 (x0::x1::x2::pA::x4::x5::x6::x7::x8::x9::aA::aB::p0::aD::aE::aF::aG::aH::aI::aJ::aK::x2::x1::p0::p0::p1::aQ::aR::aS::aT::aU::x3::p4::aX::aY::aZ::cA::cB::aA::p7::x0::x1::x2::x4::p8::x3::pA::z) p9 (blockQ 1 Q))
     (wp G r83_1 (x0::x1::x2::x3::x4::x5::x6::x7::x8::x9::aA::aB::p0::aD::aE::aF::aG::aH::aI::aJ::aK::x2::x1::p0::p0::p1::aQ::aR::aS::aT::aU::x3::p4::aX::aY::aZ::cA::cB::aA::p7::cE::cF::cG::cH::cI::cJ::cK::z) H (blockQ 1 Q))))) := by kernel_rfl
def Sb83_0 (I : Nat → V → V → V → V → V → V → V → Heap → Prop) : Nat → List V → Heap → Prop := fun i ts H => ts.length = 148 ∧ I i (ts.getD 0 undefV) (ts.getD 1 undefV) (ts.getD 2 undefV) (ts.getD 3 undefV) (ts.getD 4 undefV) (ts.getD 10 undefV) (ts.getD 11 undefV) H
@[simp] theorem Sb83_0_eq {I : Nat → V → V → V → V → V → V → V → Heap → Prop} {i : Nat} : Sb83_0 I i (x0::x1::x2::x3::x4::x5::x6::x7::x8::x9::aA::aB::aC::aD::aE::aF::aG::aH::aI::aJ::aK::aL::aM::aN::aO::aP::aQ::aR::aS::aT::aU::aV::aW::aX::aY::aZ::cA::cB::cC::cD::cE::cF::cG::cH::cI::cJ::cK::cL::cM::cN::cO::cP::cQ::cR::cS::cT::cU::cV::cW::cX::cY::cZ::dA::dB::dC::dD::dE::dF::dG::dH::dI::dJ::dK::dL::dM::dN::dO::dP::dQ::dR::dS::dT::dU::dV::dW::dX::dY::dZ::eA::eB::eC::eD::eE::eF::eG::eH::eI::eJ::eK::eL::eM::eN::eO::eP::eQ::eR::eS::eT::eU::eV::eW::eX::eY::eZ::fA::fB::fC::fD::fE::fF::fG::fH::fI::fJ::fK::fL::fM::fN::fO::fP::fQ::fR::fS::fT::fU::fV::fW::fX::fY::fZ::gA::gB::gC::gD::gE::gF::gG::gH::[]) H = I i x0 x1 x2 x3 x4 aA aB H := propext ⟨fun h => h.2,fun h => ⟨rfl,h⟩⟩
theorem ub83_0 (M : Nat) (I : Nat → V → V → V → V → V → V → V → Heap → Prop) (step : ∀ i,i ≤ M → ∀ (x0 x1 x2 x3 x4 aA aB : V) (H : Heap),I i x0 x1 x2 x3 x4 aA aB H → ∀ (x5 x6 x7 x8 x9 aC aD aE aF aG aH aI aJ aK aL aM aN aO aP aQ aR aS aT aU aV aW aX aY aZ cA cB cC cD cE cF cG cH cI cJ cK cL cM cN cO cP cQ cR cS cT cU cV cW cX cY cZ dA dB dC dD dE dF dG dH dI dJ dK dL dM dN dO dP dQ dR dS dT dU dV dW dX dY dZ eA eB eC eD eE eF eG eH eI eJ eK eL eM eN eO eP eQ eR eS eT eU eV eW eX eY eZ fA fB fC fD fE fF fG fH fI fJ fK fL fM fN fO fP fQ fR fS fT fU fV fW fX fY fZ gA gB gC gD gE gF gG gH : V),wp G b83_0 (x0::x1::x2::x3::x4::x5::x6::x7::x8::x9::aA::aB::aC::aD::aE::aF::aG::aH::aI::aJ::aK::aL::aM::aN::aO::aP::aQ::aR::aS::aT::aU::aV::aW::aX::aY::aZ::cA::cB::cC::cD::cE::cF::cG::cH::cI::cJ::cK::cL::cM::cN::cO::cP::cQ::cR::cS::cT::cU::cV::cW::cX::cY::cZ::dA::dB::dC::dD::dE::dF::dG::dH::dI::dJ::dK::dL::dM::dN::dO::dP::dQ::dR::dS::dT::dU::dV::dW::dX::dY::dZ::eA::eB::eC::eD::eE::eF::eG::eH::eI::eJ::eK::eL::eM::eN::eO::eP::eQ::eR::eS::eT::eU::eV::eW::eX::eY::eZ::fA::fB::fC::fD::fE::fF::fG::fH::fI::fJ::fK::fL::fM::fN::fO::fP::fQ::fR::fS::fT::fU::fV::fW::fX::fY::fZ::gA::gB::gC::gD::gE::gF::gG::gH::[]) H (upQ M (Sb83_0 I) i Q)) (i : Nat) (hi : i ≤ M) (h : I i x0 x1 x2 x3 x4 aA aB H) : Lp G b83_0 (x0::x1::x2::x3::x4::x5::x6::x7::x8::x9::aA::aB::aC::aD::aE::aF::aG::aH::aI::aJ::aK::aL::aM::aN::aO::aP::aQ::aR::aS::aT::aU::aV::aW::aX::aY::aZ::cA::cB::cC::cD::cE::cF::cG::cH::cI::cJ::cK::cL::cM::cN::cO::cP::cQ::cR::cS::cT::cU::cV::cW::cX::cY::cZ::dA::dB::dC::dD::dE::dF::dG::dH::dI::dJ::dK::dL::dM::dN::dO::dP::dQ::dR::dS::dT::dU::dV::dW::dX::dY::dZ::eA::eB::eC::eD::eE::eF::eG::eH::eI::eJ::eK::eL::eM::eN::eO::eP::eQ::eR::eS::eT::eU::eV::eW::eX::eY::eZ::fA::fB::fC::fD::fE::fF::fG::fH::fI::fJ::fK::fL::fM::fN::fO::fP::fQ::fR::fS::fT::fU::fV::fW::fX::fY::fZ::gA::gB::gC::gD::gE::gF::gG::gH::[]) H Q :=
  Lp.up (S := Sb83_0 I) (fun i t H hi hS => (congrArg (fun t => wp G b83_0 t H (upQ M (Sb83_0 I) i Q)) (tabF_eq hS.1)).mpr (step i hi _ _ _ _ _ _ _ H hS.2 ..)) _ i _ H rfl hi ⟨rfl,h⟩
theorem wr83_1 : wp G r83_1 (x0::x1::x2::x3::x4::x5::x6::x7::x8::x9::aA::aB::aC::aD::aE::aF::aG::aH::aI::aJ::aK::aL::aM::aN::aO::aP::aQ::aR::aS::aT::aU::aV::aW::aX::aY::aZ::cA::cB::cC::cD::cE::cF::cG::cH::cI::cJ::cK::cL::cM::cN::cO::cP::cQ::cR::cS::cT::cU::cV::cW::cX::cY::cZ::dA::dB::dC::dD::dE::dF::z) H Q = (
  (true || G.pur 90) = true ∧ Cl G 90 [x0,x1,x2,x4] H fun p0 p1=>
  bd (extV 0 p0) fun p2=>
  bd (extV 1 p0) fun p3=>
  bd (binV .eql p3 (.int .i64 2)) fun p4=>
  ifB p4
   ((true || G.pur 91) = true ∧ Cl G 91 [x0,x1,x2,x4] p1 fun p5 p6=>
   bd (binV .sub x2 (.int .i64 1)) fun p7=>
   bd (binV .sub p2 x1) fun p8=>
   bd (binV .sub p7 p8) fun p9=>
   wp G r83_2 (x0::x1::x2::x3::x4::x5::x6::x7::x8::x9::aA::aB::aC::p9::(.int .i64 1)::aF::aG::aH::aI::aJ::aK::aL::aM::aN::aO::aP::aQ::aR::aS::aT::aU::aV::aW::aX::aY::aZ::cA::cB::cC::cD::cE::cF::cG::cH::cI::cJ::cK::p0::x0::x1::x2::x4::p0::p2::p3::p3::p4::x0::x1::x2::x4::p5::x2::p7::p2::x1::p8::p9::z) p6 Q)
   (wp G r83_2 (x0::x1::x2::x3::x4::x5::x6::x7::x8::x9::aA::aB::aC::p2::p3::aF::aG::aH::aI::aJ::aK::aL::aM::aN::aO::aP::aQ::aR::aS::aT::aU::aV::aW::aX::aY::aZ::cA::cB::cC::cD::cE::cF::cG::cH::cI::cJ::cK::p0::x0::x1::x2::x4::p0::p2::p3::p3::p4::cV::cW::cX::cY::cZ::dA::dB::dC::dD::dE::dF::z) p1 Q)) := by kernel_rfl
def Wr83_1 (x0 x1 x2 x3 x4 aA aB aC : V) (H : Heap) (Q : Cont) : Prop := ∀ (x5 x6 x7 x8 x9 aD aE aF aG aH aI aJ aK aL aM aN aO aP aQ aR aS aT aU aV aW aX aY aZ cA cB cC cD cE cF cG cH cI cJ cK cL cM cN cO cP cQ cR cS cT cU cV cW cX cY cZ dA dB dC dD dE dF dG dH dI dJ dK dL dM dN dO dP dQ dR dS dT dU dV dW dX dY dZ eA eB eC eD eE eF eG eH eI eJ eK eL eM eN eO eP eQ eR eS eT eU eV eW eX eY eZ fA fB fC fD fE fF fG fH fI fJ fK fL fM fN fO fP fQ fR fS fT fU fV fW fX fY fZ gA gB gC gD gE gF gG gH : V),wp G r83_1 (x0::x1::x2::x3::x4::x5::x6::x7::x8::x9::aA::aB::aC::aD::aE::aF::aG::aH::aI::aJ::aK::aL::aM::aN::aO::aP::aQ::aR::aS::aT::aU::aV::aW::aX::aY::aZ::cA::cB::cC::cD::cE::cF::cG::cH::cI::cJ::cK::cL::cM::cN::cO::cP::cQ::cR::cS::cT::cU::cV::cW::cX::cY::cZ::dA::dB::dC::dD::dE::dF::dG::dH::dI::dJ::dK::dL::dM::dN::dO::dP::dQ::dR::dS::dT::dU::dV::dW::dX::dY::dZ::eA::eB::eC::eD::eE::eF::eG::eH::eI::eJ::eK::eL::eM::eN::eO::eP::eQ::eR::eS::eT::eU::eV::eW::eX::eY::eZ::fA::fB::fC::fD::fE::fF::fG::fH::fI::fJ::fK::fL::fM::fN::fO::fP::fQ::fR::fS::fT::fU::fV::fW::fX::fY::fZ::gA::gB::gC::gD::gE::gF::gG::gH::[]) H Q
theorem wr83_2 : wp G r83_2 (x0::x1::x2::x3::x4::x5::x6::x7::x8::x9::aA::aB::aC::aD::aE::aF::aG::aH::aI::aJ::aK::aL::aM::aN::aO::aP::aQ::aR::aS::aT::aU::aV::aW::aX::aY::aZ::cA::cB::cC::cD::cE::cF::cG::cH::cI::cJ::cK::cL::cM::cN::cO::cP::cQ::cR::cS::cT::cU::cV::cW::cX::cY::cZ::dA::dB::dC::dD::dE::dF::dG::dH::dI::dJ::dK::dL::dM::dN::dO::dP::dQ::dR::dS::z) H Q = (
  wpg (gdV aA true) H (fun k => k aB H) fun p0 p1=>
  bd (pickV aA p0 (.bool false)) fun p2=>
  wpg (gdV p2 true) p1 (fun k => k aE p1) fun p3 p4=>
  wpg (gdV p2 true) p4 (fun k => bd (binV .eql p3 (.int .i64 1)) fun p5 => k p5 p4) fun p6 p7=>
  bd (pickV p2 p6 (.bool false)) fun p8=>
  ifB p8
   ((true || G.pur 92) = true ∧ Cl G 92 [x0,x1,x2,x4] p7 fun p9 pA=>
   ifB p9
    (Q .r (x0::x1::x2::x3::x4::x5::x6::x7::x8::x9::aA::aB::aC::aD::aE::aF::aG::aH::aI::aJ::aK::aL::aM::aN::aO::aP::aQ::aR::aS::aT::aU::aV::aW::aX::aY::aZ::cA::cB::cC::cD::cE::cF::cG::cH::cI::cJ::cK::cL::cM::cN::cO::cP::cQ::cR::cS::cT::cU::cV::cW::cX::cY::cZ::dA::dB::dC::dD::dE::dF::aA::aA::p0::p2::p2::p3::p6::p8::x0::x1::x2::x4::p9::z) pA)
    (wp G r83_3 (x0::x1::x2::x3::x4::x5::x6::x7::x8::x9::aA::aB::aC::aD::aE::aF::aG::aH::aI::aJ::aK::aL::aM::aN::aO::aP::aQ::aR::aS::aT::aU::aV::aW::aX::aY::aZ::cA::cB::cC::cD::cE::cF::cG::cH::cI::cJ::cK::cL::cM::cN::cO::cP::cQ::cR::cS::cT::cU::cV::cW::cX::cY::cZ::dA::dB::dC::dD::dE::dF::aA::aA::p0::p2::p2::p3::p6::p8::x0::x1::x2::x4::p9::z) pA Q))
   (wp G r83_3 (x0::x1::x2::x3::x4::x5::x6::x7::x8::x9::aA::aB::aC::aD::aE::aF::aG::aH::aI::aJ::aK::aL::aM::aN::aO::aP::aQ::aR::aS::aT::aU::aV::aW::aX::aY::aZ::cA::cB::cC::cD::cE::cF::cG::cH::cI::cJ::cK::cL::cM::cN::cO::cP::cQ::cR::cS::cT::cU::cV::cW::cX::cY::cZ::dA::dB::dC::dD::dE::dF::aA::aA::p0::p2::p2::p3::p6::p8::dO::dP::dQ::dR::dS::z) p7 Q)) := by kernel_rfl
def Wr83_2 (x0 x1 x2 x3 x4 aA aB aC aD aE : V) (H : Heap) (Q : Cont) : Prop := ∀ (x5 x6 x7 x8 x9 aF aG aH aI aJ aK aL aM aN aO aP aQ aR aS aT aU aV aW aX aY aZ cA cB cC cD cE cF cG cH cI cJ cK cL cM cN cO cP cQ cR cS cT cU cV cW cX cY cZ dA dB dC dD dE dF dG dH dI dJ dK dL dM dN dO dP dQ dR dS dT dU dV dW dX dY dZ eA eB eC eD eE eF eG eH eI eJ eK eL eM eN eO eP eQ eR eS eT eU eV eW eX eY eZ fA fB fC fD fE fF fG fH fI fJ fK fL fM fN fO fP fQ fR fS fT fU fV fW fX fY fZ gA gB gC gD gE gF gG gH : V),wp G r83_2 (x0::x1::x2::x3::x4::x5::x6::x7::x8::x9::aA::aB::aC::aD::aE::aF::aG::aH::aI::aJ::aK::aL::aM::aN::aO::aP::aQ::aR::aS::aT::aU::aV::aW::aX::aY::aZ::cA::cB::cC::cD::cE::cF::cG::cH::cI::cJ::cK::cL::cM::cN::cO::cP::cQ::cR::cS::cT::cU::cV::cW::cX::cY::cZ::dA::dB::dC::dD::dE::dF::dG::dH::dI::dJ::dK::dL::dM::dN::dO::dP::dQ::dR::dS::dT::dU::dV::dW::dX::dY::dZ::eA::eB::eC::eD::eE::eF::eG::eH::eI::eJ::eK::eL::eM::eN::eO::eP::eQ::eR::eS::eT::eU::eV::eW::eX::eY::eZ::fA::fB::fC::fD::fE::fF::fG::fH::fI::fJ::fK::fL::fM::fN::fO::fP::fQ::fR::fS::fT::fU::fV::fW::fX::fY::fZ::gA::gB::gC::gD::gE::gF::gG::gH::[]) H Q
theorem wr83_3 : wp G r83_3 (x0::x1::x2::x3::x4::x5::x6::x7::x8::x9::aA::aB::aC::aD::aE::aF::aG::aH::aI::aJ::aK::aL::aM::aN::aO::aP::aQ::aR::aS::aT::aU::aV::aW::aX::aY::aZ::cA::cB::cC::cD::cE::cF::cG::cH::cI::cJ::cK::cL::cM::cN::cO::cP::cQ::cR::cS::cT::cU::cV::cW::cX::cY::cZ::dA::dB::dC::dD::dE::dF::dG::dH::dI::dJ::dK::dL::dM::dN::dO::dP::dQ::dR::dS::dT::dU::dV::dW::dX::dY::dZ::eA::eB::eC::eD::eE::eF::eG::eH::eI::eJ::eK::eL::eM::eN::eO::eP::eQ::eR::eS::eT::eU::eV::eW::eX::eY::eZ::fA::fB::fC::fD::fE::fF::fG::fH::fI::fJ::fK::fL::fM::fN::fO::fP::fQ::fR::fS::fT::fU::fV::fW::fX::fY::fZ::gA::gB::gC::gD::gE::gF::gG::gH::[]) H Q = (
  bd (binV .gtr x1 (.int .i64 0)) fun p0=>
  wpg (gdV p0 true) H (fun k => k x4 H) fun p1 p2=>
  wpg (gdV p0 true) p2 (fun k => k x0 p2) fun p3 p4=>
  wpg (gdV p0 true) p4 (fun k => k x1 p4) fun p5 p6=>
  wpg (gdV p0 true) p6 (fun k => bd (binV .sub p5 (.int .i64 1)) fun p7 => k p7 p6) fun p8 p9=>
  wpg (gdV p0 true) p9 (fun k => bd (iadrV 2 p3 p8) fun pA => k pA p9) fun pB pC=>
  wpg (gdV p0 true) pC (fun k => bd (ldV pC pB 2 true) fun pD => k pD pC) fun pE pF=>
  wpg (gdV p0 true) pF (fun k => k x0 pF) fun pG pH=>
  wpg (gdV p0 true) pH (fun k => k aD pH) fun pI pJ=>
  wpg (gdV p0 true) pJ (fun k => bd (iadrV 2 pG pI) fun pK => k pK pJ) fun pL pM=>
  wpg (gdV p0 true) pM (fun k => bd (ldV pM pL 2 true) fun pN => k pN pM) fun pO pP=>
  wpg (gdV p0 true) pP (fun k => bd (callV p1) fun c => (true || G.pur c.1) = true ∧ Cl G c.1 ([pE,pO] ++ c.2) pP fun pQ pR => k pQ pR) fun pS pT=>
  wpg (gdV p0 true) pT (fun k => bd (binV .lss pS (.int .i64 0)) fun pU => k pU pT) fun pV pW=>
  wpg (gdV p0 true) pW (fun k => bd (unV .not pV) fun pX => k pX pW) fun pY pZ=>
  bd (pickV p0 pY (.bool false)) fun pa=>
  ifB pa
   ((true || G.pur 93) = true ∧ Cl G 93 [x0,x1,x2,aD,x4] pZ fun pb pc=>
   Q (.e 1) (x0::pb::x2::x3::x4::x5::x6::x7::x8::x9::aA::aB::aC::aD::aE::pb::aG::aH::aI::aJ::aK::aL::aM::aN::aO::aP::aQ::aR::aS::aT::aU::aV::aW::aX::aY::aZ::cA::cB::cC::cD::cE::cF::cG::cH::cI::cJ::cK::cL::cM::cN::cO::cP::cQ::cR::cS::cT::cU::cV::cW::cX::cY::cZ::dA::dB::dC::dD::dE::dF::dG::dH::dI::dJ::dK::dL::dM::dN::dO::dP::dQ::dR::dS::x1::p0::p0::p1::p3::p5::p8::pB::pE::pG::pI::pL::pO::pS::pV::pY::pa::x0::x1::x2::aD::x4::pb::pb::eR::eS::eT::eU::eV::eW::eX::eY::eZ::fA::fB::fC::fD::fE::fF::fG::fH::fI::fJ::fK::fL::fM::fN::fO::fP::fQ::fR::fS::fT::fU::fV::fW::fX::fY::fZ::gA::gB::gC::gD::gE::gF::gG::gH::[]) pc)
   ((true || G.pur 94) = true ∧ Cl G 94 [x0,x1,x2,aD,x4] pZ fun pd pe=>
   bd (extV 0 pd) fun pf=>
   bd (extV 1 pd) fun pg=>
   bd (binV .sub pf x1) fun ph=>
   bd (binV .sub x2 pf) fun pi=>
   bd (binV .quo aC (.int .i64 8)) fun pj=>
   bd (binV .lss ph pi) fun pk=>
   ifB pk
    (bd (binV .geq ph pj) fun pl=>
    (true || G.pur 83) = true ∧ Cl G 83 [x0,x1,pf,x3,x4] pe fun pm pn=>
    bd (binV .add pf (.int .i64 1)) fun po=>
    Q .n (x0::po::x2::x3::x4::x5::x6::x7::x8::x9::pl::pg::aC::aD::aE::aF::pf::pg::ph::pi::pj::aL::aM::aN::aO::aP::aQ::aR::aS::aT::aU::aV::aW::aX::aY::aZ::cA::cB::cC::cD::cE::cF::cG::cH::cI::cJ::cK::cL::cM::cN::cO::cP::cQ::cR::cS::cT::cU::cV::cW::cX::cY::cZ::dA::dB::dC::dD::dE::dF::dG::dH::dI::dJ::dK::dL::dM::dN::dO::dP::dQ::dR::dS::x1::p0::p0::p1::p3::p5::p8::pB::pE::pG::pI::pL::pO::pS::pV::pY::pa::eK::eL::eM::eN::eO::eP::eQ::pd::x0::x1::x2::aD::x4::pd::pf::pg::pg::pf::x1::ph::x2::pf::pi::aC::pj::ph::pi::pk::ph::pj::pl::x0::x1::pf::x3::x4::pm::pf::po::fX::fY::fZ::gA::gB::gC::gD::gE::gF::gG::gH::[]) pn)
    (bd (binV .geq pi pj) fun pp=>
    bd (binV .add pf (.int .i64 1)) fun pq=>
    (true || G.pur 83) = true ∧ Cl G 83 [x0,pq,x2,x3,x4] pe fun pr ps=>
    Q .n (x0::x1::pf::x3::x4::x5::x6::x7::x8::x9::pp::pg::aC::aD::aE::aF::pf::pg::ph::pi::pj::aL::aM::aN::aO::aP::aQ::aR::aS::aT::aU::aV::aW::aX::aY::aZ::cA::cB::cC::cD::cE::cF::cG::cH::cI::cJ::cK::cL::cM::cN::cO::cP::cQ::cR::cS::cT::cU::cV::cW::cX::cY::cZ::dA::dB::dC::dD::dE::dF::dG::dH::dI::dJ::dK::dL::dM::dN::dO::dP::dQ::dR::dS::x1::p0::p0::p1::p3::p5::p8::pB::pE::pG::pI::pL::pO::pS::pV::pY::pa::eK::eL::eM::eN::eO::eP::eQ::pd::x0::x1::x2::aD::x4::pd::pf::pg::pg::pf::x1::ph::x2::pf::pi::aC::pj::ph::pi::pk::fM::fN::fO::fP::fQ::fR::fS::fT::fU::fV::fW::pi::pj::pp::x0::pf::pq::x2::x3::x4::pr::pf::[]) ps))) := by kernel_rfl
def Wr83_3 (x0 x1 x2 x3 x4 aA aB aC aD : V) (H : Heap) (Q : Cont) : Prop := ∀ (x5 x6 x7 x8 x9 aE aF aG aH aI aJ aK aL aM aN aO aP aQ aR aS aT aU aV aW aX aY aZ cA cB cC cD cE cF cG cH cI cJ cK cL cM cN cO cP cQ cR cS cT cU cV cW cX cY cZ dA dB dC dD dE dF dG dH dI dJ dK dL dM dN dO dP dQ dR dS dT dU dV dW dX dY dZ eA eB eC eD eE eF eG eH eI eJ eK eL eM eN eO eP eQ eR eS eT eU eV eW eX eY eZ fA fB fC fD fE fF fG fH fI fJ fK fL fM fN fO fP fQ fR fS fT fU fV fW fX fY fZ gA gB gC gD gE gF gG gH : V),wp G r83_3 (x0::x1::x2::x3::x4::x5::x6::x7::x8::x9::aA::aB::aC::aD::aE::aF::aG::aH::aI::aJ::aK::aL::aM::aN::aO::aP::aQ::aR::aS::aT::aU::aV::aW::aX::aY::aZ::cA::cB::cC::cD::cE::cF::cG::cH::cI::cJ::cK::cL::cM::cN::cO::cP::cQ::cR::cS::cT::cU::cV::cW::cX::cY::cZ::dA::dB::dC::dD::dE::dF::dG::dH::dI::dJ::dK::dL::dM::dN::dO::dP::dQ::dR::dS::dT::dU::dV::dW::dX::dY::dZ::eA::eB::eC::eD::eE::eF::eG::eH::eI::eJ::eK::eL::eM::eN::eO::eP::eQ::eR::eS::eT::eU::eV::eW::eX::eY::eZ::fA::fB::fC::fD::fE::fF::fG::fH::fI::fJ::fK::fL::fM::fN::fO::fP::fQ::fR::fS::fT::fU::fV::fW::fX::fY::fZ::gA::gB::gC::gD::gE::gF::gG::gH::[]) H Q
theorem w87 : runW G i87 [x0,x1,x2,x3] H k = (
  bd (binV .add x1 (.int .i64 1)) fun p0=>
  Lp G b87_0 [x0,x1,x2,x3,undefV,undefV,undefV,undefV,p0,undefV,x1,p0,undefV,undefV,undefV,undefV,undefV,undefV,undefV,undefV,undefV,undefV,undefV,undefV,undefV,undefV,undefV,undefV,undefV,undefV,undefV,undefV,undefV,undefV,undefV,undefV,undefV,undefV,undefV,undefV,undefV,undefV,undefV,undefV,undefV,undefV,undefV,undefV,undefV,undefV,undefV,undefV,undefV] H (blockQ 0 (retQ i87 k))) := by kernel_rfl
@[simp] theorem ret87n : retQ i87 k .n (z) H = k (.tup []) H := nrfl
theorem wb87_0 : wp G b87_0 (x0::x1::x2::x3::x4::x5::x6::x7::x8::x9::aA::aB::aC::aD::aE::aF::aG::aH::z) H Q = (
  bd (binV .lss x8 x2) fun p0=>
  ifB p0
   (Lp G b87_1 (x0::x1::x2::x3::x4::x5::x6::x7::x8::x8::aA::aB::x8::x2::p0::aF::aG::x8::z) H (blockQ 2 (blockQ 1 (seqQ G r87_2 Q))))
   (Q (.e 0) (x0::x1::x2::x3::x4::x5::x6::x7::x8::x9::aA::aB::x8::x2::p0::aF::aG::aH::z) H)) := by kernel_rfl
def Sb87_0 (I : Nat → V → V → V → V → V → Heap → Prop) : Nat → List V → Heap → Prop := fun i ts H => ts.length = 53 ∧ I i (ts.getD 0 undefV) (ts.getD 1 undefV) (ts.getD 2 undefV) (ts.getD 3 undefV) (ts.getD 8 undefV) H
@[simp] theorem Sb87_0_eq {I : Nat → V → V → V → V → V → Heap → Prop} {i : Nat} : Sb87_0 I i [x0,x1,x2,x3,x4,x5,x6,x7,x8,x9,aA,aB,aC,aD,aE,aF,aG,aH,aI,aJ,aK,aL,aM,aN,aO,aP,aQ,aR,aS,aT,aU,aV,aW,aX,aY,aZ,cA,cB,cC,cD,cE,cF,cG,cH,cI,cJ,cK,cL,cM,cN,cO,cP,cQ] H = I i x0 x1 x2 x3 x8 H := propext ⟨fun h => h.2,fun h => ⟨rfl,h⟩⟩
theorem ub87_0 (M : Nat) (I : Nat → V → V → V → V → V → Heap → Prop) (step : ∀ i,i ≤ M → ∀ (x0 x1 x2 x3 x8 : V) (H : Heap),I i x0 x1 x2 x3 x8 H → ∀ (x4 x5 x6 x7 x9 aA aB aC aD aE aF aG aH aI aJ aK aL aM aN aO aP aQ aR aS aT aU aV aW aX aY aZ cA cB cC cD cE cF cG cH cI cJ cK cL cM cN cO cP cQ : V),wp G b87_0 [x0,x1,x2,x3,x4,x5,x6,x7,x8,x9,aA,aB,aC,aD,aE,aF,aG,aH,aI,aJ,aK,aL,aM,aN,aO,aP,aQ,aR,aS,aT,aU,aV,aW,aX,aY,aZ,cA,cB,cC,cD,cE,cF,cG,cH,cI,cJ,cK,cL,cM,cN,cO,cP,cQ] H (upQ M (Sb87_0 I) i Q)) (i : Nat) (hi : i ≤ M) (h : I i x0 x1 x2 x3 x8 H) : Lp G b87_0 [x0,x1,x2,x3,x4,x5,x6,x7,x8,x9,aA,aB,aC,aD,aE,aF,aG,aH,aI,aJ,aK,aL,aM,aN,aO,aP,aQ,aR,aS,aT,aU,aV,aW,aX,aY,aZ,cA,cB,cC,cD,cE,cF,cG,cH,cI,cJ,cK,cL,cM,cN,cO,cP,cQ] H Q :=
  Lp.up (S := Sb87_0 I) (fun i t H hi hS => (congrArg (fun t => wp G b87_0 t H (upQ M (Sb87_0 I) i Q)) (tabF_eq hS.1)).mpr (step i hi _ _ _ _ _ H hS.2 ..)) _ i _ H rfl hi ⟨rfl,h⟩
theorem wb87_1 : wp G b87_1 [x0,x1,x2,x3,x4,x5,x6,x7,x8,x9,aA,aB,aC,aD,aE,aF,aG,aH,aI,aJ,aK,aL,aM,aN,aO,aP,aQ,aR,aS,aT,aU,aV,aW,aX,aY,aZ,cA,cB,cC,cD,cE,cF,cG,cH,cI,cJ,cK,cL,cM,cN,cO,cP,cQ] H Q = (
  bd (binV .gtr x9 x1) fun p0=>
  wpg (gdV p0 true) H (fun k => k x3 H) fun p1 p2=>
  wpg (gdV p0 true) p2 (fun k => k x0 p2) fun p3 p4=>
  wpg (gdV p0 true) p4 (fun k => k x9 p4) fun p5 p6=>
  wpg (gdV p0 true) p6 (fun k => bd (iadrV 2 p3 p5) fun p7 => k p7 p6) fun p8 p9=>
  wpg (gdV p0 true) p9 (fun k => bd (ldV p9 p8 2 true) fun pA => k pA p9) fun pB pC=>
  wpg (gdV p0 true) pC (fun k => k x0 pC) fun pD pE=>
  wpg (gdV p0 true) pE (fun k => k x9 pE) fun pF pG=>
  wpg (gdV p0 true) pG (fun k => bd (binV .sub pF (.int .i64 1)) fun pH => k pH pG) fun pI pJ=>
  wpg (gdV p0 true) pJ (fun k => bd (iadrV 2 pD pI) fun pK => k pK pJ) fun pL pM=>
  wpg (gdV p0 true) pM (fun k => bd (ldV pM pL 2 true) fun pN => k pN pM) fun pO pP=>
  wpg (gdV p0 true) pP (fun k => bd (callV p1) fun c => (true || G.pur c.1) = true ∧ Cl G c.1 ([pB,pO] ++ c.2) pP fun pQ pR => k pQ pR) fun pS pT=>
  wpg (gdV p0 true) pT (fun k => bd (binV .lss pS (.int .i64 0)) fun pU => k pU pT) fun pV pW=>
  bd (pickV p0 pV (.bool false)) fun pX=>
  ifB pX
   (bd (binV .sub x9 (.int .i64 1)) fun pY=>
   bd (binV .sub x9 (.int .i64 1)) fun pZ=>
   bd (iadrV 2 x0 pZ) fun pa=>
   bd (ldV pW pa 2 true) fun pb=>
   bd (iadrV 2 x0 x9) fun pc=>
   bd (ldV pW pc 2 true) fun pd=>
   bd (iadrV 2 x0 x9) fun pe=>
   true = true ∧ bd (stV pW 2 pe pb) fun pf=>
   bd (iadrV 2 x0 pY) fun pg=>
   true = true ∧ bd (stV pf 2 pg pd) fun ph=>
   bd (binV .sub x9 (.int .i64 1)) fun pi=>
   Q .n [x0,x1,x2,x3,x4,x5,x6,x7,x8,pi,aA,aB,aC,aD,aE,aF,aG,aH,x9,x1,p0,p0,p1,p3,p5,p8,pB,pD,pF,pI,pL,pO,pS,pV,pX,x9,pi,x0,x9,x0,x9,pY,x0,x9,pZ,pa,pb,x0,x9,pc,pd,pe,pg] ph)
   (Q (.e 2) [x0,x1,x2,x3,x4,x5,x6,x7,x8,x9,aA,aB,aC,aD,aE,aF,aG,aH,x9,x1,p0,p0,p1,p3,p5,p8,pB,pD,pF,pI,pL,pO,pS,pV,pX,aZ,cA,cB,cC,cD,cE,cF,cG,cH,cI,cJ,cK,cL,cM,cN,cO,cP,cQ] pW)) := by kernel_rfl
def Sb87_1 (I : Nat → V → V → V → V → V → V → Heap → Prop) : Nat → List V → Heap → Prop := fun i ts H => ts.length = 53 ∧ I i (ts.getD 0 undefV) (ts.getD 1 undefV) (ts.getD 2 undefV) (ts.getD 3 undefV) (ts.getD 8 undefV) (ts.getD 9 undefV) H
@[simp] theorem Sb87_1_eq {I : Nat → V → V → V → V → V → V → Heap → Prop} {i : Nat} : Sb87_1 I i [x0,x1,x2,x3,x4,x5,x6,x7,x8,x9,aA,aB,aC,aD,aE,aF,aG,aH,aI,aJ,aK,aL,aM,aN,aO,aP,aQ,aR,aS,aT,aU,aV,aW,aX,aY,aZ,cA,cB,cC,cD,cE,cF,cG,cH,cI,cJ,cK,cL,cM,cN,cO,cP,cQ] H = I i x0 x1 x2 x3 x8 x9 H := propext ⟨fun h => h.2,fun h => ⟨rfl,h⟩⟩
theorem ub87_1 (M : Nat) (I : Nat → V → V → V → V → V → V → Heap → Prop) (step : ∀ i,i ≤ M → ∀ (x0 x1 x2 x3 x8 x9 : V) (H : Heap),I i x0 x1 x2 x3 x8 x9 H → ∀ (x4 x5 x6 x7 aA aB aC aD aE aF aG aH aI aJ aK aL aM aN aO aP aQ aR aS aT aU aV aW aX aY aZ cA cB cC cD cE cF cG cH cI cJ cK cL cM cN cO cP cQ : V),wp G b87_1 [x0,x1,x2,x3,x4,x5,x6,x7,x8,x9,aA,aB,aC,aD,aE,aF,aG,aH,aI,aJ,aK,aL,aM,aN,aO,aP,aQ,aR,aS,aT,aU,aV,aW,aX,aY,aZ,cA,cB,cC,cD,cE,cF,cG,cH,cI,cJ,cK,cL,cM,cN,cO,cP,cQ] H (upQ M (Sb87_1 I) i Q)) (i : Nat) (hi : i ≤ M) (h : I i x0 x1 x2 x3 x8 x9 H) : Lp G b87_1 [x0,x1,x2,x3,x4,x5,x6,x7,x8,x9,aA,aB,aC,aD,aE,aF,aG,aH,aI,aJ,aK,aL,aM,aN,aO,aP,aQ,aR,aS,aT,aU,aV,aW,aX,aY,aZ,cA,cB,cC,cD,cE,cF,cG,cH,cI,cJ,cK,cL,cM,cN,cO,cP,cQ] H Q :=
  Lp.up (S := Sb87_1 I) (fun i t H hi hS => (congrArg (fun t => wp G b87_1 t H (upQ M (Sb87_1 I) i Q)) (tabF_eq hS.1)).mpr (step i hi _ _ _ _ _ _ H hS.2 ..)) _ i _ H rfl hi ⟨rfl,h⟩
theorem wr87_2 : wp G r87_2 (x0::x1::x2::x3::x4::x5::x6::x7::x8::x9::aA::aB::aC::aD::aE::aF::aG::z) H Q = (
  bd (binV .add x8 (.int .i64 1)) fun p0=>
  Q .n (x0::x1::x2::x3::x4::x5::x6::x7::p0::x9::aA::aB::aC::aD::aE::x8::p0::z) H) := by kernel_rfl
theorem w88 : runW G i88 [x0,x1,x2,x3] H k = (
  bd (binV .sub x2 x1) fun p0=>
  bd (binV .sub p0 (.int .i64 1)) fun p1=>
  bd (binV .quo p1 (.int .i64 2)) fun p2=>
  Lp G b88_0 [x0,x1,x2,x3,undefV,undefV,undefV,undefV,x1,(.int .i64 0),p0,p2,undefV,x1,x2,x1,p0,p0,p1,p2,undefV,undefV,undefV,undefV,undefV,undefV,undefV,undefV,undefV,undefV,undefV,undefV,undefV,undefV,undefV,undefV,undefV,undefV,undefV,undefV,undefV,undefV,undefV,undefV,undefV,undefV,undefV,undefV,undefV,undefV,undefV,undefV,undefV,undefV,undefV,undefV,undefV,undefV,undefV,undefV] H (blockQ 0 (seqQ G r88_1 (retQ i88 k)))) := by kernel_rfl
@[simp] theorem ret88n : retQ i88 k .n (z) H = k (.tup []) H := nrfl
theorem wb88_0 : wp G b88_0 (x0::x1::x2::x3::x4::x5::x6::x7::x8::x9::aA::aB::aC::aD::aE::aF::aG::aH::aI::aJ::aK::aL::aM::aN::aO::aP::aQ::aR::aS::aT::z) H Q = (
  bd (binV .geq aB (.int .i64 0)) fun p0=>
  ifB p0
   ((true || G.pur 98) = true ∧ Cl G 98 [x0,aB,aA,x8,x3] H fun p1 p2=>
   bd (binV .sub aB (.int .i64 1)) fun p3=>
   Q .n (x0::x1::x2::x3::x4::x5::x6::x7::x8::x9::aA::p3::aC::aD::aE::aF::aG::aH::aI::aJ::aB::p0::aB::p3::x0::aB::aA::x8::x3::p1::z) p2)
   (Q (.e 0) (x0::x1::x2::x3::x4::x5::x6::x7::x8::x9::aA::aB::aC::aD::aE::aF::aG::aH::aI::aJ::aB::p0::aM::aN::aO::aP::aQ::aR::aS::aT::z) H)) := by kernel_rfl
def Sb88_0 (I : Nat → V → V → V → V → V → V → Heap → Prop) : Nat → List V → Heap → Prop := fun i ts H => ts.length = 60 ∧ I i (ts.getD 0 undefV) (ts.getD 3 undefV) (ts.getD 8 undefV) (ts.getD 9 undefV) (ts.getD 10 undefV) (ts.getD 11 undefV) H
@[simp] theorem Sb88_0_eq {I : Nat → V → V → V → V → V → V → Heap → Prop} {i : Nat} : Sb88_0 I i [x0,x1,x2,x3,x4,x5,x6,x7,x8,x9,aA,aB,aC,aD,aE,aF,aG,aH,aI,aJ,aK,aL,aM,aN,aO,aP,aQ,aR,aS,aT,aU,aV,aW,aX,aY,aZ,cA,cB,cC,cD,cE,cF,cG,cH,cI,cJ,cK,cL,cM,cN,cO,cP,cQ,cR,cS,cT,cU,cV,cW,cX] H = I i x0 x3 x8 x9 aA aB H := propext ⟨fun h => h.2,fun h => ⟨rfl,h⟩⟩
theorem ub88_0 (M : Nat) (I : Nat → V → V → V → V → V → V → Heap → Prop) (step : ∀ i,i ≤ M → ∀ (x0 x3 x8 x9 aA aB : V) (H : Heap),I i x0 x3 x8 x9 aA aB H → ∀ (x1 x2 x4 x5 x6 x7 aC aD aE aF aG aH aI aJ aK aL aM aN aO aP aQ aR aS aT aU aV aW aX aY aZ cA cB cC cD cE cF cG cH cI cJ cK cL cM cN cO cP cQ cR cS cT cU cV cW cX : V),wp G b88_0 [x0,x1,x2,x3,x4,x5,x6,x7,x8,x9,aA,aB,aC,aD,aE,aF,aG,aH,aI,aJ,aK,aL,aM,aN,aO,aP,aQ,aR,aS,aT,aU,aV,aW,aX,aY,aZ,cA,cB,cC,cD,cE,cF,cG,cH,cI,cJ,cK,cL,cM,cN,cO,cP,cQ,cR,cS,cT,cU,cV,cW,cX] H (upQ M (Sb88_0 I) i Q)) (i : Nat) (hi : i ≤ M) (h : I i x0 x3 x8 x9 aA aB H) : Lp G b88_0 [x0,x1,x2,x3,x4,x5,x6,x7,x8,x9,aA,aB,aC,aD,aE,aF,aG,aH,aI,aJ,aK,aL,aM,aN,aO,aP,aQ,aR,aS,aT,aU,aV,aW,aX,aY,aZ,cA,cB,cC,cD,cE,cF,cG,cH,cI,cJ,cK,cL,cM,cN,cO,cP,cQ,cR,cS,cT,cU,cV,cW,cX] H Q :=
  Lp.up (S := Sb88_0 I) (fun i t H hi hS => (congrArg (fun t => wp G b88_0 t H (upQ M (Sb88_0 I) i Q)) (tabF_eq hS.1)).mpr (step i hi _ _ _ _ _ _ H hS.2 ..)) _ i _ H rfl hi ⟨rfl,h⟩
theorem wr88_1 : wp G r88_1 (x0::x1::x2::x3::x4::x5::x6::x7::x8::x9::aA::aB::aC::aD::aE::aF::aG::aH::aI::aJ::aK::aL::aM::aN::aO::aP::aQ::aR::aS::aT::aU::aV::z) H Q = (
  bd (binV .sub aA (.int .i64 1)) fun p0=>
  Lp G b88_2 (x0::x1::x2::x3::x4::x5::x6::x7::x8::x9::aA::aB::p0::aD::aE::aF::aG::aH::aI::aJ::aK::aL::aM::aN::aO::aP::aQ::aR::aS::aT::aA::p0::z) H (blockQ 2 Q)) := by kernel_rfl
theorem wb88_2 : wp G b88_2 [x0,x1,x2,x3,x4,x5,x6,x7,x8,x9,aA,aB,aC,aD,aE,aF,aG,aH,aI,aJ,aK,aL,aM,aN,aO,aP,aQ,aR,aS,aT,aU,aV,aW,aX,aY,aZ,cA,cB,cC,cD,cE,cF,cG,cH,cI,cJ,cK,cL,cM,cN,cO,cP,cQ,cR,cS,cT,cU,cV,cW,cX] H Q = (
  bd (binV .geq aC (.int .i64 0)) fun p0=>
  ifB p0
   (bd (binV .add x8 aC) fun p1=>
   bd (binV .add x8 aC) fun p2=>
   bd (iadrV 2 x0 p2) fun p3=>
   bd (ldV H p3 2 true) fun p4=>
   bd (iadrV 2 x0 x8) fun p5=>
   bd (ldV H p5 2 true) fun p6=>
   bd (iadrV 2 x0 x8) fun p7=>
   true = true ∧ bd (stV H 2 p7 p4) fun p8=>
   bd (iadrV 2 x0 p1) fun p9=>
   true = true ∧ bd (stV p8 2 p9 p6) fun pA=>
   (true || G.pur 98) = true ∧ Cl G 98 [x0,x9,aC,x8,x3] pA fun pB pC=>
   bd (binV .sub aC (.int .i64 1)) fun pD=>
   Q .n [x0,x1,x2,x3,x4,x5,x6,x7,x8,x9,aA,aB,pD,aD,aE,aF,aG,aH,aI,aJ,aK,aL,aM,aN,aO,aP,aQ,aR,aS,aT,aU,aV,aC,p0,aC,pD,x0,x8,x0,x8,aC,p1,x0,x8,aC,p2,p3,p4,x0,x8,p5,p6,p7,p9,x0,x9,aC,x8,x3,pB] pC)
   (Q (.e 2) [x0,x1,x2,x3,x4,x5,x6,x7,x8,x9,aA,aB,aC,aD,aE,aF,aG,aH,aI,aJ,aK,aL,aM,aN,aO,aP,aQ,aR,aS,aT,aU,aV,aC,p0,aY,aZ,cA,cB,cC,cD,cE,cF,cG,cH,cI,cJ,cK,cL,cM,cN,cO,cP,cQ,cR,cS,cT,cU,cV,cW,cX] H)) := by kernel_rfl
def Sb88_2 (I : Nat → V → V → V → V → V → Heap → Prop) : Nat → List V → Heap → Prop := fun i ts H => ts.length = 60 ∧ I i (ts.getD 0 undefV) (ts.getD 3 undefV) (ts.getD 8 undefV) (ts.getD 9 undefV) (ts.getD 12 undefV) H
@[simp] theorem Sb88_2_eq {I : Nat → V → V → V → V → V → Heap → Prop} {i : Nat} : Sb88_2 I i [x0,x1,x2,x3,x4,x5,x6,x7,x8,x9,aA,aB,aC,aD,aE,aF,aG,aH,aI,aJ,aK,aL,aM,aN,aO,aP,aQ,aR,aS,aT,aU,aV,aW,aX,aY,aZ,cA,cB,cC,cD,cE,cF,cG,cH,cI,cJ,cK,cL,cM,cN,cO,cP,cQ,cR,cS,cT,cU,cV,cW,cX] H = I i x0 x3 x8 x9 aC H := propext ⟨fun h => h.2,fun h => ⟨rfl,h⟩⟩
theorem ub88_2 (M : Nat) (I : Nat → V → V → V → V → V → Heap → Prop) (step : ∀ i,i ≤ M → ∀ (x0 x3 x8 x9 aC : V) (H : Heap),I i x0 x3 x8 x9 aC H → ∀ (x1 x2 x4 x5 x6 x7 aA aB aD aE aF aG aH aI aJ aK aL aM aN aO aP aQ aR aS aT aU aV aW aX aY aZ cA cB cC cD cE cF cG cH cI cJ cK cL cM cN cO cP cQ cR cS cT cU cV cW cX : V),wp G b88_2 [x0,x1,x2,x3,x4,x5,x6,x7,x8,x9,aA,aB,aC,aD,aE,aF,aG,aH,aI,aJ,aK,aL,aM,aN,aO,aP,aQ,aR,aS,aT,aU,aV,aW,aX,aY,aZ,cA,cB,cC,cD,cE,cF,cG,cH,cI,cJ,cK,cL,cM,cN,cO,cP,cQ,cR,cS,cT,cU,cV,cW,cX] H (upQ M (Sb88_2 I) i Q)) (i : Nat) (hi : i ≤ M) (h : I i x0 x3 x8 x9 aC H) : Lp G b88_2 [x0,x1,x2,x3,x4,x5,x6,x7,x8,x9,aA,aB,aC,aD,aE,aF,aG,aH,aI,aJ,aK,aL,aM,aN,aO,aP,aQ,aR,aS,aT,aU,aV,aW,aX,aY,aZ,cA,cB,cC,cD,cE,cF,cG,cH,cI,cJ,cK,cL,cM,cN,cO,cP,cQ,cR,cS,cT,cU,cV,cW,cX] H Q :=
  Lp.up (S := Sb88_2 I) (fun i t H hi hS => (congrArg (fun t => wp G b88_2 t H (upQ M (Sb88_2 I) i Q)) (tabF_eq hS.1)).mpr (step i hi _ _ _ _ _ H hS.2 ..)) _ i _ H rfl hi ⟨rfl,h⟩
theorem w89 : runW G i89 [x0,x1,x2,x3] H k = (
  bd (binV .sub x2 x1) fun p0=>
  bd (binV .geq p0 (.int .i64 8)) fun p1=>
  ifB p1
   (bd (convV .u64 p0) fun p2=>
   newB H (.cells [(.int .u64 0)]) fun p3 p4=>
   true = true ∧ bd (stV p4 1 p3 p2) fun p5=>
   (true || G.pur 99) = true ∧ Cl G 99 [p0] p5 fun p6 p7=>
   bd (binV .quo p0 (.int .i64 4)) fun p8=>
   bd (binV .mul p8 (.int .i64 2)) fun p9=>
   bd (binV .add x1 p9) fun pA=>
   bd (binV .sub pA (.int .i64 1)) fun pB=>
   Lp G b89_0 (x0::x1::x2::x3::undefV::undefV::undefV::undefV::p0::p3::p6::pB::undefV::x2::x1::p0::p0::p1::p0::p2::p0::p6::x1::p0::p8::p9::pA::pB::undefV::undefV::undefV::undefV::undefV::undefV::undefV::undefV::undefV::undefV::undefV::undefV::undefV::undefV::undefV::undefV::undefV::undefV::undefV::undefV::undefV::undefV::undefV::undefV::undefV::undefV::undefV::undefV::undefV::undefV::undefV::undefV::undefV::undefV::undefV::undefV::undefV::undefV::undefV::[]) p7 (blockQ 0 (retQ i89 k)))
   (k (.tup []) H)) := by kernel_rfl
@[simp] theorem ret89n : retQ i89 k .n (z) H = k (.tup []) H := nrfl
theorem wb89_0 : wp G b89_0 (x0::x1::x2::x3::x4::x5::x6::x7::x8::x9::aA::aB::aC::aD::aE::aF::aG::aH::aI::aJ::aK::aL::aM::aN::aO::aP::aQ::aR::aS::aT::aU::aV::aW::aX::aY::aZ::cA::cB::cC::cD::cE::cF::cG::cH::cI::cJ::cK::cL::cM::z) H Q = (
  bd (binV .quo x8 (.int .i64 4)) fun p0=>
  bd (binV .mul p0 (.int .i64 2)) fun p1=>
  bd (binV .add x1 p1) fun p2=>
  bd (binV .add p2 (.int .i64 1)) fun p3=>
  bd (binV .leq aB p3) fun p4=>
  ifB p4
   ((true || G.pur 100) = true ∧ Cl G 100 [x9] H fun p5 p6=>
   bd (binV .sub aA (.int .u64 1)) fun p7=>
   bd (binV .and p5 p7) fun p8=>
   bd (convV .i64 p8) fun p9=>
   bd (binV .geq p9 x8) fun pA=>
   ifB pA
    (bd (binV .sub p9 x8) fun pB=>
    wp G r89_1 (x0::x1::x2::x3::x4::x5::x6::x7::x8::x9::aA::aB::pB::aD::aE::aF::aG::aH::aI::aJ::aK::aL::aM::aN::aO::aP::aQ::aR::aB::x1::x8::p0::p1::p2::p3::p4::cA::cB::p5::aA::p7::p8::p9::p9::x8::pA::p9::x8::pB::z) p6 (blockQ 1 (seqQ G r89_2 Q)))
    (wp G r89_1 (x0::x1::x2::x3::x4::x5::x6::x7::x8::x9::aA::aB::p9::aD::aE::aF::aG::aH::aI::aJ::aK::aL::aM::aN::aO::aP::aQ::aR::aB::x1::x8::p0::p1::p2::p3::p4::cA::cB::p5::aA::p7::p8::p9::p9::x8::pA::cK::cL::cM::z) p6 (blockQ 1 (seqQ G r89_2 Q))))
   (Q (.e 0) (x0::x1::x2::x3::x4::x5::x6::x7::x8::x9::aA::aB::aC::aD::aE::aF::aG::aH::aI::aJ::aK::aL::aM::aN::aO::aP::aQ::aR::aB::x1::x8::p0::p1::p2::p3::p4::cA::cB::cC::cD::cE::cF::cG::cH::cI::cJ::cK::cL::cM::z) H)) := by kernel_rfl
def Sb89_0 (I : Nat → V → V → V → V → V → V → Heap → Prop) : Nat → List V → Heap → Prop := fun i ts H => ts.length = 67 ∧ I i (ts.getD 0 undefV) (ts.getD 1 undefV) (ts.getD 8 undefV) (ts.getD 9 undefV) (ts.getD 10 undefV) (ts.getD 11 undefV) H
@[simp] theorem Sb89_0_eq {I : Nat → V → V → V → V → V → V → Heap → Prop} {i : Nat} : Sb89_0 I i (x0::x1::x2::x3::x4::x5::x6::x7::x8::x9::aA::aB::aC::aD::aE::aF::aG::aH::aI::aJ::aK::aL::aM::aN::aO::aP::aQ::aR::aS::aT::aU::aV::aW::aX::aY::aZ::cA::cB::cC::cD::cE::cF::cG::cH::cI::cJ::cK::cL::cM::cN::cO::cP::cQ::cR::cS::cT::cU::cV::cW::cX::cY::cZ::dA::dB::dC::dD::dE::[]) H = I i x0 x1 x8 x9 aA aB H := propext ⟨fun h => h.2,fun h => ⟨rfl,h⟩⟩
theorem ub89_0 (M : Nat) (I : Nat → V → V → V → V → V → V → Heap → Prop) (step : ∀ i,i ≤ M → ∀ (x0 x1 x8 x9 aA aB : V) (H : Heap),I i x0 x1 x8 x9 aA aB H → ∀ (x2 x3 x4 x5 x6 x7 aC aD aE aF aG aH aI aJ aK aL aM aN aO aP aQ aR aS aT aU aV aW aX aY aZ cA cB cC cD cE cF cG cH cI cJ cK cL cM cN cO cP cQ cR cS cT cU cV cW cX cY cZ dA dB dC dD dE : V),wp G b89_0 (x0::x1::x2::x3::x4::x5::x6::x7::x8::x9::aA::aB::aC::aD::aE::aF::aG::aH::aI::aJ::aK::aL::aM::aN::aO::aP::aQ::aR::aS::aT::aU::aV::aW::aX::aY::aZ::cA::cB::cC::cD::cE::cF::cG::cH::cI::cJ::cK::cL::cM::cN::cO::cP::cQ::cR::cS::cT::cU::cV::cW::cX::cY::cZ::dA::dB::dC::dD::dE::[]) H (upQ M (Sb89_0 I) i Q)) (i : Nat) (hi : i ≤ M) (h : I i x0 x1 x8 x9 aA aB H) : Lp G b89_0 (x0::x1::x2::x3::x4::x5::x6::x7::x8::x9::aA::aB::aC::aD::aE::aF::aG::aH::aI::aJ::aK::aL::aM::aN::aO::aP::aQ::aR::aS::aT::aU::aV::aW::aX::aY::aZ::cA::cB::cC::cD::cE::cF::cG::cH::cI::cJ::cK::cL::cM::cN::cO::cP::cQ::cR::cS::cT::cU::cV::cW::cX::cY::cZ::dA::dB::dC::dD::dE::[]) H Q :=
  Lp.up (S := Sb89_0 I) (fun i t H hi hS => (congrArg (fun t => wp G b89_0 t H (upQ M (Sb89_0 I) i Q)) (tabF_eq hS.1)).mpr (step i hi _ _ _ _ _ _ H hS.2 ..)) _ i _ H rfl hi ⟨rfl,h⟩
theorem wr89_1 : wp G r89_1 (x0::x1::x2::x3::x4::x5::x6::x7::x8::x9::aA::aB::aC::aD::aE::aF::aG::aH::aI::aJ::aK::aL::aM::aN::aO::aP::aQ::aR::aS::aT::aU::aV::aW::aX::aY::aZ::cA::cB::cC::cD::cE::cF::cG::cH::cI::cJ::cK::cL::cM::cN::cO::cP::cQ::cR::cS::cT::cU::cV::cW::cX::cY::cZ::dA::dB::dC::dD::dE::[]) H Q = (
  bd (binV .add x1 aC) fun p0=>
  bd (binV .add x1 aC) fun p1=>
  bd (iadrV 2 x0 p1) fun p2=>
  bd (ldV H p2 2 true) fun p3=>
  bd (iadrV 2 x0 aB) fun p4=>
  bd (ldV H p4 2 true) fun p5=>
  bd (iadrV 2 x0 aB) fun p6=>
  true = true ∧ bd (stV H 2 p6 p3) fun p7=>
  bd (iadrV 2 x0 p0) fun p8=>
  true = true ∧ bd (stV p7 2 p8 p5) fun p9=>
  Q .n (x0::x1::x2::x3::x4::x5::x6::x7::x8::x9::aA::aB::aC::aD::aE::aF::aG::aH::aI::aJ::aK::aL::aM::aN::aO::aP::aQ::aR::aS::aT::aU::aV::aW::aX::aY::aZ::cA::cB::cC::cD::cE::cF::cG::cH::cI::cJ::cK::cL::cM::x0::aB::x0::x1::aC::p0::x0::x1::aC::p1::p2::p3::x0::aB::p4::p5::p6::p8::[]) p9) := by kernel_rfl
def Wr89_1 (x0 x1 x8 x9 aA aB aC : V) (H : Heap) (Q : Cont) : Prop := ∀ (x2 x3 x4 x5 x6 x7 aD aE aF aG aH aI aJ aK aL aM aN aO aP aQ aR aS aT aU aV aW aX aY aZ cA cB cC cD cE cF cG cH cI cJ cK cL cM cN cO cP cQ cR cS cT cU cV cW cX cY cZ dA dB dC dD dE : V),wp G r89_1 (x0::x1::x2::x3::x4::x5::x6::x7::x8::x9::aA::aB::aC::aD::aE::aF::aG::aH::aI::aJ::aK::aL::aM::aN::aO::aP::aQ::aR::aS::aT::aU::aV::aW::aX::aY::aZ::cA::cB::cC::cD::cE::cF::cG::cH::cI::cJ::cK::cL::cM::cN::cO::cP::cQ::cR::cS::cT::cU::cV::cW::cX::cY::cZ::dA::dB::dC::dD::dE::[]) H Q
theorem wr89_2 : wp G r89_2 (x0::x1::x2::x3::x4::x5::x6::x7::x8::x9::aA::aB::aC::aD::aE::aF::aG::aH::aI::aJ::aK::aL::aM::aN::aO::aP::aQ::aR::aS::aT::aU::aV::aW::aX::aY::aZ::cA::cB::z) H Q = (
  bd (binV .add aB (.int .i64 1)) fun p0=>
  Q .n (x0::x1::x2::x3::x4::x5::x6::x7::x8::x9::aA::p0::aC::aD::aE::aF::aG::aH::aI::aJ::aK::aL::aM::aN::aO::aP::aQ::aR::aS::aT::aU::aV::aW::aX::aY::aZ::aB::p0::z) H) := by kernel_rfl
theorem w90 : runW G i90 [x0,x1,x2,x3] H k = (
  bd (binV .sub x2 x1) fun p0=>
  newB H (.cells [(.int .i64 0)]) fun p1 p2=>
  bd (binV .quo p0 (.int .i64 4)) fun p3=>
  bd (binV .mul p3 (.int .i64 1)) fun p4=>
  bd (binV .add x1 p4) fun p5=>
  bd (binV .quo p0 (.int .i64 4)) fun p6=>
  bd (binV .mul p6 (.int .i64 2)) fun p7=>
  bd (binV .add x1 p7) fun p8=>
  bd (binV .quo p0 (.int .i64 4)) fun p9=>
  bd (binV .mul p9 (.int .i64 3)) fun pA=>
  bd (binV .add x1 pA) fun pB=>
  bd (binV .geq p0 (.int .i64 8)) fun pC=>
  ifB pC
   (bd (binV .geq p0 (.int .i64 50)) fun pD=>
   ifB pD
    ((true || G.pur 101) = true ∧ Cl G 101 [x0,p5,p1,x3] p2 fun pE pF=>
    (true || G.pur 101) = true ∧ Cl G 101 [x0,p8,p1,x3] pF fun pG pH=>
    (true || G.pur 101) = true ∧ Cl G 101 [x0,pB,p1,x3] pH fun pI pJ=>
    wp G r90_0 (x0::x1::x2::x3::undefV::undefV::undefV::undefV::(.int .i64 0)::(.int .i64 0)::p0::p1::pE::pG::pI::x2::x1::p0::x1::p0::p3::p4::p5::x1::p0::p6::p7::p8::x1::p0::p9::pA::pB::p0::pC::p0::pD::x0::p5::x3::pE::x0::p8::x3::pG::x0::pB::x3::pI::undefV::undefV::undefV::undefV::undefV::undefV::undefV::undefV::undefV::undefV::undefV::undefV::undefV::undefV::[]) pJ (seqQ G r90_1 (retQ i90 k)))
    (wp G r90_0 (x0::x1::x2::x3::undefV::undefV::undefV::undefV::(.int .i64 0)::(.int .i64 0)::p0::p1::p5::p8::pB::x2::x1::p0::x1::p0::p3::p4::p5::x1::p0::p6::p7::p8::x1::p0::p9::pA::pB::p0::pC::p0::pD::undefV::undefV::undefV::undefV::undefV::undefV::undefV::undefV::undefV::undefV::undefV::undefV::undefV::undefV::undefV::undefV::undefV::undefV::undefV::undefV::undefV::undefV::undefV::undefV::undefV::undefV::[]) p2 (seqQ G r90_1 (retQ i90 k))))
   (wp G r90_1 (x0::x1::x2::x3::undefV::undefV::undefV::undefV::(.int .i64 0)::(.int .i64 0)::p0::p1::p5::p8::pB::x2::x1::p0::x1::p0::p3::p4::p5::x1::p0::p6::p7::p8::x1::p0::p9::pA::pB::p0::pC::undefV::undefV::undefV::undefV::undefV::undefV::undefV::undefV::undefV::undefV::undefV::undefV::undefV::undefV::undefV::undefV::undefV::undefV::undefV::undefV::undefV::undefV::undefV::undefV::undefV::undefV::undefV::undefV::[]) p2 (retQ i90 k))) := by kernel_rfl
@[simp] theorem ret90 : retQ i90 k .r (x0::x1::x2::x3::x4::x5::x6::x7::x8::x9::z) H = k (.tup [x8,x9]) H := nrfl
theorem wr90_0 : wp G r90_0 (x0::x1::x2::x3::x4::x5::x6::x7::x8::x9::aA::aB::aC::aD::aE::aF::aG::aH::aI::aJ::aK::aL::aM::aN::aO::aP::aQ::aR::aS::aT::aU::aV::aW::aX::aY::aZ::cA::cB::cC::cD::cE::cF::cG::cH::cI::cJ::cK::cL::cM::cN::cO::cP::cQ::cR::cS::z) H Q = (
  (true || G.pur 102) = true ∧ Cl G 102 [x0,aC,aD,aE,aB,x3] H fun p0 p1=>
  Q .n (x0::x1::x2::x3::x4::x5::x6::x7::x8::x9::aA::aB::aC::p0::aE::aF::aG::aH::aI::aJ::aK::aL::aM::aN::aO::aP::aQ::aR::aS::aT::aU::aV::aW::aX::aY::aZ::cA::cB::cC::cD::cE::cF::cG::cH::cI::cJ::cK::cL::cM::x0::aC::aD::aE::x3::p0::z) p1) := by kernel_rfl
def Wr90_0 (x0 x3 aB aC aD aE : V) (H : Heap) (Q : Cont) : Prop := ∀ (x1 x2 x4 x5 x6 x7 x8 x9 aA aF aG aH aI aJ aK aL aM aN aO aP aQ aR aS aT aU aV aW aX aY aZ cA cB cC cD cE cF cG cH cI cJ cK cL cM cN cO cP cQ cR cS cT cU cV cW cX cY cZ dA : V),wp G r90_0 (x0::x1::x2::x3::x4::x5::x6::x7::x8::x9::aA::aB::aC::aD::aE::aF::aG::aH::aI::aJ::aK::aL::aM::aN::aO::aP::aQ::aR::aS::aT::aU::aV::aW::aX::aY::aZ::cA::cB::cC::cD::cE::cF::cG::cH::cI::cJ::cK::cL::cM::cN::cO::cP::cQ::cR::cS::cT::cU::cV::cW::cX::cY::cZ::dA::[]) H Q
theorem wr90_1 : wp G r90_1 (x0::x1::x2::x3::x4::x5::x6::x7::x8::x9::aA::aB::aC::aD::aE::aF::aG::aH::aI::aJ::aK::aL::aM::aN::aO::aP::aQ::aR::aS::aT::aU::aV::aW::aX::aY::aZ::cA::cB::cC::cD::cE::cF::cG::cH::cI::cJ::cK::cL::cM::cN::cO::cP::cQ::cR::cS::cT::cU::cV::cW::cX::cY::cZ::dA::[]) H Q = (
  bd (ldV H aB 1 false) fun p0=>
  bd (binV .eql p0 (.int .i64 0)) fun p1=>
  ifB p1
   (Q .r (x0::x1::x2::x3::x4::x5::x6::x7::aD::(.int .i64 1)::aA::aB::aC::aD::aE::aF::aG::aH::aI::aJ::aK::aL::aM::aN::aO::aP::aQ::aR::aS::aT::aU::aV::aW::aX::aY::aZ::cA::cB::cC::cD::cE::cF::cG::cH::cI::cJ::cK::cL::cM::cN::cO::cP::cQ::cR::cS::p0::cU::p1::p1::aD::cY::cZ::dA::[]) H)
   (bd (binV .eql p0 (.int .i64 12)) fun p2=>
   ifB p2
    (Q .r (x0::x1::x2::x3::x4::x5::x6::x7::aD::(.int .i64 2)::aA::aB::aC::aD::aE::aF::aG::aH::aI::aJ::aK::aL::aM::aN::aO::aP::aQ::aR::aS::aT::aU::aV::aW::aX::aY::aZ::cA::cB::cC::cD::cE::cF::cG::cH::cI::cJ::cK::cL::cM::cN::cO::cP::cQ::cR::cS::p0::cU::p1::p1::cX::p2::p2::aD::[]) H)
    (Q .r (x0::x1::x2::x3::x4::x5::x6::x7::aD::(.int .i64 0)::aA::aB::aC::aD::aE::aF::aG::aH::aI::aJ::aK::aL::aM::aN::aO::aP::aQ::aR::aS::aT::aU::aV::aW::aX::aY::aZ::cA::cB::cC::cD::cE::cF::cG::cH::cI::cJ::cK::cL::cM::cN::cO::cP::cQ::cR::cS::p0::aD::p1::p1::cX::p2::p2::dA::[]) H))) := by kernel_rfl
def Wr90_1 (aB aD : V) (H : Heap) (Q : Cont) : Prop := ∀ (x0 x1 x2 x3 x4 x5 x6 x7 x8 x9 aA aC aE aF aG aH aI aJ aK aL aM aN aO aP aQ aR aS aT aU aV aW aX aY aZ cA cB cC cD cE cF cG cH cI cJ cK cL cM cN cO cP cQ cR cS cT cU cV cW cX cY cZ dA : V),wp G r90_1 (x0::x1::x2::x3::x4::x5::x6::x7::x8::x9::aA::aB::aC::aD::aE::aF::aG::aH::aI::aJ::aK::aL::aM::aN::aO::aP::aQ::aR::aS::aT::aU::aV::aW::aX::aY::aZ::cA::cB::cC::cD::cE::cF::cG::cH::cI::cJ::cK::cL::cM::cN::cO::cP::cQ::cR::cS::cT::cU::cV::cW::cX::cY::cZ::dA::[]) H Q
theorem w91 : runW G i91 [x0,x1,x2,x3] H k = (
  bd (binV .sub x2 (.int .i64 1)) fun p0=>
  Lp G b91_0 [x0,x1,x2,x3,undefV,undefV,undefV,undefV,x1,p0,x1,x2,p0,undefV,undefV,undefV,undefV,undefV,undefV,undefV,undefV,undefV,undefV,undefV,undefV,undefV,undefV,undefV,undefV,undefV,undefV,undefV,undefV,undefV] H (blockQ 0 (retQ i91 k))) := by kernel_rfl
@[simp] theorem ret91n : retQ i91 k .n (z) H = k (.tup []) H := nrfl
theorem wb91_0 : wp G b91_0 [x0,x1,x2,x3,x4,x5,x6,x7,x8,x9,aA,aB,aC,aD,aE,aF,aG,aH,aI,aJ,aK,aL,aM,aN,aO,aP,aQ,aR,aS,aT,aU,aV,aW,aX] H Q = (
  bd (binV .lss x8 x9) fun p0=>
  ifB p0
   (bd (iadrV 2 x0 x9) fun p1=>
   bd (ldV H p1 2 true) fun p2=>
   bd (iadrV 2 x0 x8) fun p3=>
   bd (ldV H p3 2 true) fun p4=>
   bd (iadrV 2 x0 x8) fun p5=>
   true = true ∧ bd (stV H 2 p5 p2) fun p6=>
   bd (iadrV 2 x0 x9) fun p7=>
   true = true ∧ bd (stV p6 2 p7 p4) fun p8=>
   bd (binV .add x8 (.int .i64 1)) fun p9=>
   bd (binV .sub x9 (.int .i64 1)) fun pA=>
   Q .n [x0,x1,x2,x3,x4,x5,x6,x7,p9,pA,aA,aB,aC,x8,x9,p0,x0,x8,x0,x9,x0,x9,p1,p2,x0,x8,p3,p4,p5,p7,x8,p9,x9,pA] p8)
   (Q (.e 0) [x0,x1,x2,x3,x4,x5,x6,x7,x8,x9,aA,aB,aC,x8,x9,p0,aG,aH,aI,aJ,aK,aL,aM,aN,aO,aP,aQ,aR,aS,aT,aU,aV,aW,aX] H)) := by kernel_rfl
def Sb91_0 (I : Nat → V → V → V → Heap → Prop) : Nat → List V → Heap → Prop := fun i ts H => ts.length = 34 ∧ I i (ts.getD 0 undefV) (ts.getD 8 undefV) (ts.getD 9 undefV) H
@[simp] theorem Sb91_0_eq {I : Nat → V → V → V → Heap → Prop} {i : Nat} : Sb91_0 I i [x0,x1,x2,x3,x4,x5,x6,x7,x8,x9,aA,aB,aC,aD,aE,aF,aG,aH,aI,aJ,aK,aL,aM,aN,aO,aP,aQ,aR,aS,aT,aU,aV,aW,aX] H = I i x0 x8 x9 H := propext ⟨fun h => h.2,fun h => ⟨rfl,h⟩⟩
theorem ub91_0 (M : Nat) (I : Nat → V → V → V → Heap → Prop) (step : ∀ i,i ≤ M → ∀ (x0 x8 x9 : V) (H : Heap),I i x0 x8 x9 H → ∀ (x1 x2 x3 x4 x5 x6 x7 aA aB aC aD aE aF aG aH aI aJ aK aL aM aN aO aP aQ aR aS aT aU aV aW aX : V),wp G b91_0 [x0,x1,x2,x3,x4,x5,x6,x7,x8,x9,aA,aB,aC,aD,aE,aF,aG,aH,aI,aJ,aK,aL,aM,aN,aO,aP,aQ,aR,aS,aT,aU,aV,aW,aX] H (upQ M (Sb91_0 I) i Q)) (i : Nat) (hi : i ≤ M) (h : I i x0 x8 x9 H) : Lp G b91_0 [x0,x1,x2,x3,x4,x5,x6,x7,x8,x9,aA,aB,aC,aD,aE,aF,aG,aH,aI,aJ,aK,aL,aM,aN,aO,aP,aQ,aR,aS,aT,aU,aV,aW,aX] H Q :=
  Lp.up (S := Sb91_0 I) (fun i t H hi hS => (congrArg (fun t => wp G b91_0 t H (upQ M (Sb91_0 I) i Q)) (tabF_eq hS.1)).mpr (step i hi _ _ _ H hS.2 ..)) _ i _ H rfl hi ⟨rfl,h⟩
theorem w92 : runW G i92 [x0,x1,x2,x3] H k = (
  bd (binV .add x1 (.int .i64 1)) fun p0=>
  Lp G b92_0 (x0::x1::x2::x3::undefV::undefV::undefV::undefV::(.bool false)::p0::(.int .i64 0)::undefV::undefV::x1::p0::undefV::undefV::undefV::undefV::undefV::undefV::undefV::undefV::undefV::undefV::undefV::undefV::undefV::undefV::undefV::undefV::undefV::undefV::undefV::undefV::undefV::undefV::undefV::undefV::undefV::undefV::undefV::undefV::undefV::undefV::undefV::undefV::undefV::undefV::undefV::undefV::undefV::undefV::undefV::undefV::undefV::undefV::undefV::undefV::undefV::undefV::undefV::undefV::undefV::undefV::undefV::undefV::undefV::undefV::undefV::undefV::undefV::undefV::undefV::undefV::undefV::undefV::undefV::undefV::undefV::undefV::undefV::undefV::undefV::undefV::undefV::undefV::undefV::undefV::undefV::undefV::undefV::undefV::undefV::undefV::undefV::undefV::undefV::undefV::undefV::undefV::undefV::undefV::undefV::undefV::undefV::undefV::undefV::undefV::undefV::undefV::undefV::undefV::undefV::undefV::undefV::undefV::undefV::undefV::undefV::undefV::undefV::undefV::undefV::undefV::undefV::undefV::undefV::undefV::undefV::undefV::undefV::undefV::undefV::undefV::undefV::undefV::undefV::undefV::undefV::undefV::[]) H (blockQ 0 (seqQ G r92_7 (retQ i92 k)))) := by kernel_rfl
@[simp] theorem ret92 : retQ i92 k .r (x0::x1::x2::x3::x4::x5::x6::x7::x8::z) H = k x8 H := nrfl
theorem wb92_0 : wp G b92_0 (x0::x1::x2::x3::x4::x5::x6::x7::x8::x9::aA::aB::aC::aD::aE::aF::aG::z) H Q = (
  bd (binV .lss aA (.int .i64 5)) fun p0=>
  ifB p0
   (Lp G b92_1 (x0::x1::x2::x3::x4::x5::x6::x7::x8::x9::aA::aB::aC::aD::aE::aA::p0::z) H (blockQ 2 (seqQ G r92_2 (blockQ 1 (seqQ G r92_6 Q)))))
   (Q (.e 0) (x0::x1::x2::x3::x4::x5::x6::x7::x8::x9::aA::aB::aC::aD::aE::aA::p0::z) H)) := by kernel_rfl
def Sb92_0 (I : Nat → V → V → V → V → V → V → Heap → Prop) : Nat → List V → Heap → Prop := fun i ts H => ts.length = 141 ∧ I i (ts.getD 0 undefV) (ts.getD 1 undefV) (ts.getD 2 undefV) (ts.getD 3 undefV) (ts.getD 9 undefV) (ts.getD 10 undefV) H
@[simp] theorem Sb92_0_eq {I : Nat → V → V → V → V → V → V → Heap → Prop} {i : Nat} : Sb92_0 I i (x0::x1::x2::x3::x4::x5::x6::x7::x8::x9::aA::aB::aC::aD::aE::aF::aG::aH::aI::aJ::aK::aL::aM::aN::aO::aP::aQ::aR::aS::aT::aU::aV::aW::aX::aY::aZ::cA::cB::cC::cD::cE::cF::cG::cH::cI::cJ::cK::cL::cM::cN::cO::cP::cQ::cR::cS::cT::cU::cV::cW::cX::cY::cZ::dA::dB::dC::dD::dE::dF::dG::dH::dI::dJ::dK::dL::dM::dN::dO::dP::dQ::dR::dS::dT::dU::dV::dW::dX::dY::dZ::eA::eB::eC::eD::eE::eF::eG::eH::eI::eJ::eK::eL::eM::eN::eO::eP::eQ::eR::eS::eT::eU::eV::eW::eX::eY::eZ::fA::fB::fC::fD::fE::fF::fG::fH::fI::fJ::fK::fL::fM::fN::fO::fP::fQ::fR::fS::fT::fU::fV::fW::fX::fY::fZ::gA::[]) H = I i x0 x1 x2 x3 x9 aA H := propext ⟨fun h => h.2,fun h => ⟨rfl,h⟩⟩
theorem ub92_0 (M : Nat) (I : Nat → V → V → V → V → V → V → Heap → Prop) (step : ∀ i,i ≤ M → ∀ (x0 x1 x2 x3 x9 aA : V) (H : Heap),I i x0 x1 x2 x3 x9 aA H → ∀ (x4 x5 x6 x7 x8 aB aC aD aE aF aG aH aI aJ aK aL aM aN aO aP aQ aR aS aT aU aV aW aX aY aZ cA cB cC cD cE cF cG cH cI cJ cK cL cM cN cO cP cQ cR cS cT cU cV cW cX cY cZ dA dB dC dD dE dF dG dH dI dJ dK dL dM dN dO dP dQ dR dS dT dU dV dW dX dY dZ eA eB eC eD eE eF eG eH eI eJ eK eL eM eN eO eP eQ eR eS eT eU eV eW eX eY eZ fA fB fC fD fE fF fG fH fI fJ fK fL fM fN fO fP fQ fR fS fT fU fV fW fX fY fZ gA : V),wp G b92_0 (x0::x1::x2::x3::x4::x5::x6::x7::x8::x9::aA::aB::aC::aD::aE::aF::aG::aH::aI::aJ::aK::aL::aM::aN::aO::aP::aQ::aR::aS::aT::aU::aV::aW::aX::aY::aZ::cA::cB::cC::cD::cE::cF::cG::cH::cI::cJ::cK::cL::cM::cN::cO::cP::cQ::cR::cS::cT::cU::cV::cW::cX::cY::cZ::dA::dB::dC::dD::dE::dF::dG::dH::dI::dJ::dK::dL::dM::dN::dO::dP::dQ::dR::dS::dT::dU::dV::dW::dX::dY::dZ::eA::eB::eC::eD::eE::eF::eG::eH::eI::eJ::eK::eL::eM::eN::eO::eP::eQ::eR::eS::eT::eU::eV::eW::eX::eY::eZ::fA::fB::fC::fD::fE::fF::fG::fH::fI::fJ::fK::fL::fM::fN::fO::fP::fQ::fR::fS::fT::fU::fV::fW::fX::fY::fZ::gA::[]) H (upQ M (Sb92_0 I) i Q)) (i : Nat) (hi : i ≤ M) (h : I i x0 x1 x2 x3 x9 aA H) : Lp G b92_0 (x0::x1::x2::x3::x4::x5::x6::x7::x8::x9::aA::aB::aC::aD::aE::aF::aG::aH::aI::aJ::aK::aL::aM::aN::aO::aP::aQ::aR::aS::aT::aU::aV::aW::aX::aY::aZ::cA::cB::cC::cD::cE::cF::cG::cH::cI::cJ::cK::cL::cM::cN::cO::cP::cQ::cR::cS::cT::cU::cV::cW::cX::cY::cZ::dA::dB::dC::dD::dE::dF::dG::dH::dI::dJ::dK::dL::dM::dN::dO::dP::dQ::dR::dS::dT::dU::dV::dW::dX::dY::dZ::eA::eB::eC::eD::eE::eF::eG::eH::eI::eJ::eK::eL::eM::eN::eO::eP::eQ::eR::eS::eT::eU::eV::eW::eX::eY::eZ::fA::fB::fC::fD::fE::fF::fG::fH::fI::fJ::fK::fL::fM::fN::fO::fP::fQ::fR::fS::fT::fU::fV::fW::fX::fY::fZ::gA::[]) H Q :=
  Lp.up (S := Sb92_0 I) (fun i t H hi hS => (congrArg (fun t => wp G b92_0 t H (upQ M (Sb92_0 I) i Q)) (tabF_eq hS.1)).mpr (step i hi _ _ _ _ _ _ H hS.2 ..)) _ i _ H rfl hi ⟨rfl,h⟩
theorem wb92_1 : wp G b92_1 (x0::x1::x2::x3::x4::x5::x6::x7::x8::x9::aA::aB::aC::aD::aE::aF::aG::aH::aI::aJ::aK::aL::aM::aN::aO::aP::aQ::aR::aS::aT::aU::aV::aW::aX::aY::aZ::cA::cB::cC::z) H Q = (
  bd (binV .lss x9 x2) fun p0=>
  wpg (gdV p0 true) H (fun k => k x3 H) fun p1 p2=>
  wpg (gdV p0 true) p2 (fun k => k x0 p2) fun p3 p4=>
  wpg (gdV p0 true) p4 (fun k => k x9 p4) fun p5 p6=>
  wpg (gdV p0 true) p6 (fun k => bd (iadrV 2 p3 p5) fun p7 => k p7 p6) fun p8 p9=>
  wpg (gdV p0 true) p9 (fun k => bd (ldV p9 p8 2 true) fun pA => k pA p9) fun pB pC=>
  wpg (gdV p0 true) pC (fun k => k x0 pC) fun pD pE=>
  wpg (gdV p0 true) pE (fun k => k x9 pE) fun pF pG=>
  wpg (gdV p0 true) pG (fun k => bd (binV .sub pF (.int .i64 1)) fun pH => k pH pG) fun pI pJ=>
  wpg (gdV p0 true) pJ (fun k => bd (iadrV 2 pD pI) fun pK => k pK pJ) fun pL pM=>
  wpg (gdV p0 true) pM (fun k => bd (ldV pM pL 2 true) fun pN => k pN pM) fun pO pP=>
  wpg (gdV p0 true) pP (fun k => bd (callV p1) fun c => (true || G.pur c.1) = true ∧ Cl G c.1 ([pB,pO] ++ c.2) pP fun pQ pR => k pQ pR) fun pS pT=>
  wpg (gdV p0 true) pT (fun k => bd (binV .lss pS (.int .i64 0)) fun pU => k pU pT) fun pV pW=>
  wpg (gdV p0 true) pW (fun k => bd (unV .not pV) fun pX => k pX pW) fun pY pZ=>
  bd (pickV p0 pY (.bool false)) fun pa=>
  ifB pa
   (bd (binV .add x9 (.int .i64 1)) fun pb=>
   Q .n (x0::x1::x2::x3::x4::x5::x6::x7::x8::pb::aA::aB::aC::aD::aE::aF::aG::aH::aI::x9::x2::p0::p0::p1::p3::p5::p8::pB::pD::pF::pI::pL::pO::pS::pV::pY::pa::x9::pb::z) pZ)
   (Q (.e 2) (x0::x1::x2::x3::x4::x5::x6::x7::x8::x9::aA::aB::aC::aD::aE::aF::aG::aH::aI::x9::x2::p0::p0::p1::p3::p5::p8::pB::pD::pF::pI::pL::pO::pS::pV::pY::pa::cB::cC::z) pZ)) := by kernel_rfl
def Sb92_1 (I : Nat → V → V → V → V → V → V → Heap → Prop) : Nat → List V → Heap → Prop := fun i ts H => ts.length = 141 ∧ I i (ts.getD 0 undefV) (ts.getD 1 undefV) (ts.getD 2 undefV) (ts.getD 3 undefV) (ts.getD 9 undefV) (ts.getD 10 undefV) H
@[simp] theorem Sb92_1_eq {I : Nat → V → V → V → V → V → V → Heap → Prop} {i : Nat} : Sb92_1 I i (x0::x1::x2::x3::x4::x5::x6::x7::x8::x9::aA::aB::aC::aD::aE::aF::aG::aH::aI::aJ::aK::aL::aM::aN::aO::aP::aQ::aR::aS::aT::aU::aV::aW::aX::aY::aZ::cA::cB::cC::cD::cE::cF::cG::cH::cI::cJ::cK::cL::cM::cN::cO::cP::cQ::cR::cS::cT::cU::cV::cW::cX::cY::cZ::dA::dB::dC::dD::dE::dF::dG::dH::dI::dJ::dK::dL::dM::dN::dO::dP::dQ::dR::dS::dT::dU::dV::dW::dX::dY::dZ::eA::eB::eC::eD::eE::eF::eG::eH::eI::eJ::eK::eL::eM::eN::eO::eP::eQ::eR::eS::eT::eU::eV::eW::eX::eY::eZ::fA::fB::fC::fD::fE::fF::fG::fH::fI::fJ::fK::fL::fM::fN::fO::fP::fQ::fR::fS::fT::fU::fV::fW::fX::fY::fZ::gA::[]) H = I i x0 x1 x2 x3 x9 aA H := propext ⟨fun h => h.2,fun h => ⟨rfl,h⟩⟩
theorem ub92_1 (M : Nat) (I : Nat → V → V → V → V → V → V → Heap → Prop) (step : ∀ i,i ≤ M → ∀ (x0 x1 x2 x3 x9 aA : V) (H : Heap),I i x0 x1 x2 x3 x9 aA H → ∀ (x4 x5 x6 x7 x8 aB aC aD aE aF aG aH aI aJ aK aL aM aN aO aP aQ aR aS aT aU aV aW aX aY aZ cA cB cC cD cE cF cG cH cI cJ cK cL cM cN cO cP cQ cR cS cT cU cV cW cX cY cZ dA dB dC dD dE dF dG dH dI dJ dK dL dM dN dO dP dQ dR dS dT dU dV dW dX dY dZ eA eB eC eD eE eF eG eH eI eJ eK eL eM eN eO eP eQ eR eS eT eU eV eW eX eY eZ fA fB fC fD fE fF fG fH fI fJ fK fL fM fN fO fP fQ fR fS fT fU fV fW fX fY fZ gA : V),wp G b92_1 (x0::x1::x2::x3::x4::x5::x6::x7::x8::x9::aA::aB::aC::aD::aE::aF::aG::aH::aI::aJ::aK::aL::aM::aN::aO::aP::aQ::aR::aS::aT::aU::aV::aW::aX::aY::aZ::cA::cB::cC::cD::cE::cF::cG::cH::cI::cJ::cK::cL::cM::cN::cO::cP::cQ::cR::cS::cT::cU::cV::cW::cX::cY::cZ::dA::dB::dC::dD::dE::dF::dG::dH::dI::dJ::dK::dL::dM::dN::dO::dP::dQ::dR::dS::dT::dU::dV::dW::dX::dY::dZ::eA::eB::eC::eD::eE::eF::eG::eH::eI::eJ::eK::eL::eM::eN::eO::eP::eQ::eR::eS::eT::eU::eV::eW::eX::eY::eZ::fA::fB::fC::fD::fE::fF::fG::fH::fI::fJ::fK::fL::fM::fN::fO::fP::fQ::fR::fS::fT::fU::fV::fW::fX::fY::fZ::gA::[]) H (upQ M (Sb92_1 I) i Q)) (i : Nat) (hi : i ≤ M) (h : I i x0 x1 x2 x3 x9 aA H) : Lp G b92_1 (x0::x1::x2::x3::x4::x5::x6::x7::x8::x9::aA::aB::aC::aD::aE::aF::aG::aH::aI::aJ::aK::aL::aM::aN::aO::aP::aQ::aR::aS::aT::aU::aV::aW::aX::aY::aZ::cA::cB::cC::cD::cE::cF::cG::cH::cI::cJ::cK::cL::cM::cN::cO::cP::cQ::cR::cS::cT::cU::cV::cW::cX::cY::cZ::dA::dB::dC::dD::dE::dF::dG::dH::dI::dJ::dK::dL::dM::dN::dO::dP::dQ::dR::dS::dT::dU::dV::dW::dX::dY::dZ::eA::eB::eC::eD::eE::eF::eG::eH::eI::eJ::eK::eL::eM::eN::eO::eP::eQ::eR::eS::eT::eU::eV::eW::eX::eY::eZ::fA::fB::fC::fD::fE::fF::fG::fH::fI::fJ::fK::fL::fM::fN::fO::fP::fQ::fR::fS::fT::fU::fV::fW::fX::fY::fZ::gA::[]) H Q :=
  Lp.up (S := Sb92_1 I) (fun i t H hi hS => (congrArg (fun t => wp G b92_1 t H (upQ M (Sb92_1 I) i Q)) (tabF_eq hS.1)).mpr (step i hi _ _ _ _ _ _ H hS.2 ..)) _ i _ H rfl hi ⟨rfl,h⟩
theorem wr92_2 : wp G r92_2 (x0::x1::x2::x3::x4::x5::x6::x7::x8::x9::aA::aB::aC::aD::aE::aF::aG::aH::aI::aJ::aK::aL::aM::aN::aO::aP::aQ::aR::aS::aT::aU::aV::aW::aX::aY::aZ::cA::cB::cC::cD::cE::cF::cG::cH::cI::cJ::cK::cL::cM::cN::cO::cP::cQ::cR::cS::cT::cU::cV::cW::cX::cY::cZ::dA::dB::dC::dD::dE::dF::z) H Q = (
  bd (binV .eql x9 x2) fun p0=>
  ifB p0
   (Q .r (x0::x1::x2::x3::x4::x5::x6::x7::(.bool true)::x9::aA::aB::aC::aD::aE::aF::aG::aH::aI::aJ::aK::aL::aM::aN::aO::aP::aQ::aR::aS::aT::aU::aV::aW::aX::aY::aZ::cA::cB::cC::x9::x2::p0::cG::cH::cI::cJ::cK::cL::cM::cN::cO::cP::cQ::cR::cS::cT::cU::cV::cW::cX::cY::cZ::dA::dB::dC::dD::dE::dF::z) H)
   (bd (binV .sub x2 x1) fun p1=>
   bd (binV .lss p1 (.int .i64 50)) fun p2=>
   ifB p2
    (Q .r (x0::x1::x2::x3::x4::x5::x6::x7::(.bool false)::x9::aA::aB::aC::aD::aE::aF::aG::aH::aI::aJ::aK::aL::aM::aN::aO::aP::aQ::aR::aS::aT::aU::aV::aW::aX::aY::aZ::cA::cB::cC::x9::x2::p0::x2::x1::p1::p2::cK::cL::cM::cN::cO::cP::cQ::cR::cS::cT::cU::cV::cW::cX::cY::cZ::dA::dB::dC::dD::dE::dF::z) H)
    (bd (binV .sub x9 (.int .i64 1)) fun p3=>
    bd (binV .sub x9 (.int .i64 1)) fun p4=>
    bd (iadrV 2 x0 p4) fun p5=>
    bd (ldV H p5 2 true) fun p6=>
    bd (iadrV 2 x0 x9) fun p7=>
    bd (ldV H p7 2 true) fun p8=>
    bd (iadrV 2 x0 x9) fun p9=>
    true = true ∧ bd (stV H 2 p9 p6) fun pA=>
    bd (iadrV 2 x0 p3) fun pB=>
    true = true ∧ bd (stV pA 2 pB p8) fun pC=>
    bd (binV .sub x9 x1) fun pD=>
    bd (binV .geq pD (.int .i64 2)) fun pE=>
    ifB pE
     (bd (binV .sub x9 (.int .i64 1)) fun pF=>
     Lp G b92_3 (x0::x1::x2::x3::x4::x5::x6::x7::x8::x9::aA::pF::aC::aD::aE::aF::aG::aH::aI::aJ::aK::aL::aM::aN::aO::aP::aQ::aR::aS::aT::aU::aV::aW::aX::aY::aZ::cA::cB::cC::x9::x2::p0::x2::x1::p1::p2::x0::x9::x0::x9::p3::x0::x9::p4::p5::p6::x0::x9::p7::p8::p9::pB::x9::x1::pD::pE::x9::pF::z) pC (blockQ 4 (seqQ G r92_4 Q)))
     (wp G r92_4 (x0::x1::x2::x3::x4::x5::x6::x7::x8::x9::aA::aB::aC::aD::aE::aF::aG::aH::aI::aJ::aK::aL::aM::aN::aO::aP::aQ::aR::aS::aT::aU::aV::aW::aX::aY::aZ::cA::cB::cC::x9::x2::p0::x2::x1::p1::p2::x0::x9::x0::x9::p3::x0::x9::p4::p5::p6::x0::x9::p7::p8::p9::pB::x9::x1::pD::pE::dE::dF::z) pC Q)))) := by kernel_rfl
def Wr92_2 (x0 x1 x2 x3 x9 aA : V) (H : Heap) (Q : Cont) : Prop := ∀ (x4 x5 x6 x7 x8 aB aC aD aE aF aG aH aI aJ aK aL aM aN aO aP aQ aR aS aT aU aV aW aX aY aZ cA cB cC cD cE cF cG cH cI cJ cK cL cM cN cO cP cQ cR cS cT cU cV cW cX cY cZ dA dB dC dD dE dF dG dH dI dJ dK dL dM dN dO dP dQ dR dS dT dU dV dW dX dY dZ eA eB eC eD eE eF eG eH eI eJ eK eL eM eN eO eP eQ eR eS eT eU eV eW eX eY eZ fA fB fC fD fE fF fG fH fI fJ fK fL fM fN fO fP fQ fR fS fT fU fV fW fX fY fZ gA : V),wp G r92_2 (x0::x1::x2::x3::x4::x5::x6::x7::x8::x9::aA::aB::aC::aD::aE::aF::aG::aH::aI::aJ::aK::aL::aM::aN::aO::aP::aQ::aR::aS::aT::aU::aV::aW::aX::aY::aZ::cA::cB::cC::cD::cE::cF::cG::cH::cI::cJ::cK::cL::cM::cN::cO::cP::cQ::cR::cS::cT::cU::cV::cW::cX::cY::cZ::dA::dB::dC::dD::dE::dF::dG::dH::dI::dJ::dK::dL::dM::dN::dO::dP::dQ::dR::dS::dT::dU::dV::dW::dX::dY::dZ::eA::eB::eC::eD::eE::eF::eG::eH::eI::eJ::eK::eL::eM::eN::eO::eP::eQ::eR::eS::eT::eU::eV::eW::eX::eY::eZ::fA::fB::fC::fD::fE::fF::fG::fH::fI::fJ::fK::fL::fM::fN::fO::fP::fQ::fR::fS::fT::fU::fV::fW::fX::fY::fZ::gA::[]) H Q
theorem wb92_3 : wp G b92_3 (x0::x1::x2::x3::x4::x5::x6::x7::x8::x9::aA::aB::aC::aD::aE::aF::aG::aH::aI::aJ::aK::aL::aM::aN::aO::aP::aQ::aR::aS::aT::aU::aV::aW::aX::aY::aZ::cA::cB::cC::cD::cE::cF::cG::cH::cI::cJ::cK::cL::cM::cN::cO::cP::cQ::cR::cS::cT::cU::cV::cW::cX::cY::cZ::dA::dB::dC::dD::dE::dF::dG::dH::dI::dJ::dK::dL::dM::dN::dO::dP::dQ::dR::dS::dT::dU::dV::dW::dX::dY::dZ::eA::eB::eC::eD::eE::eF::eG::eH::eI::eJ::eK::eL::eM::z) H Q = (
  bd (binV .geq aB (.int .i64 1)) fun p0=>
  ifB p0
   (bd (iadrV 2 x0 aB) fun p1=>
   bd (ldV H p1 2 true) fun p2=>
   bd (binV .sub aB (.int .i64 1)) fun p3=>
   bd (iadrV 2 x0 p3) fun p4=>
   bd (ldV H p4 2 true) fun p5=>
   bd (callV x3) fun c => (true || G.pur c.1) = true ∧ Cl G c.1 ([p2,p5] ++ c.2) H fun p6 p7=>
   bd (binV .lss p6 (.int .i64 0)) fun p8=>
   bd (unV .not p8) fun p9=>
   ifB p9
    (Q (.e 4) (x0::x1::x2::x3::x4::x5::x6::x7::x8::x9::aA::aB::aC::aD::aE::aF::aG::aH::aI::aJ::aK::aL::aM::aN::aO::aP::aQ::aR::aS::aT::aU::aV::aW::aX::aY::aZ::cA::cB::cC::cD::cE::cF::cG::cH::cI::cJ::cK::cL::cM::cN::cO::cP::cQ::cR::cS::cT::cU::cV::cW::cX::cY::cZ::dA::dB::dC::dD::dE::dF::aB::p0::dI::dJ::x3::x0::aB::p1::p2::x0::aB::p3::p4::p5::p6::p8::p9::dX::dY::dZ::eA::eB::eC::eD::eE::eF::eG::eH::eI::eJ::eK::eL::eM::z) p7)
    (bd (binV .sub aB (.int .i64 1)) fun pA=>
    bd (binV .sub aB (.int .i64 1)) fun pB=>
    bd (iadrV 2 x0 pB) fun pC=>
    bd (ldV p7 pC 2 true) fun pD=>
    bd (iadrV 2 x0 aB) fun pE=>
    bd (ldV p7 pE 2 true) fun pF=>
    bd (iadrV 2 x0 aB) fun pG=>
    true = true ∧ bd (stV p7 2 pG pD) fun pH=>
    bd (iadrV 2 x0 pA) fun pI=>
    true = true ∧ bd (stV pH 2 pI pF) fun pJ=>
    bd (binV .sub aB (.int .i64 1)) fun pK=>
    Q .n (x0::x1::x2::x3::x4::x5::x6::x7::x8::x9::aA::pK::aC::aD::aE::aF::aG::aH::aI::aJ::aK::aL::aM::aN::aO::aP::aQ::aR::aS::aT::aU::aV::aW::aX::aY::aZ::cA::cB::cC::cD::cE::cF::cG::cH::cI::cJ::cK::cL::cM::cN::cO::cP::cQ::cR::cS::cT::cU::cV::cW::cX::cY::cZ::dA::dB::dC::dD::dE::dF::aB::p0::aB::pK::x3::x0::aB::p1::p2::x0::aB::p3::p4::p5::p6::p8::p9::x0::aB::x0::aB::pA::x0::aB::pB::pC::pD::x0::aB::pE::pF::pG::pI::z) pJ))
   (Q (.e 4) (x0::x1::x2::x3::x4::x5::x6::x7::x8::x9::aA::aB::aC::aD::aE::aF::aG::aH::aI::aJ::aK::aL::aM::aN::aO::aP::aQ::aR::aS::aT::aU::aV::aW::aX::aY::aZ::cA::cB::cC::cD::cE::cF::cG::cH::cI::cJ::cK::cL::cM::cN::cO::cP::cQ::cR::cS::cT::cU::cV::cW::cX::cY::cZ::dA::dB::dC::dD::dE::dF::aB::p0::dI::dJ::dK::dL::dM::dN::dO::dP::dQ::dR::dS::dT::dU::dV::dW::dX::dY::dZ::eA::eB::eC::eD::eE::eF::eG::eH::eI::eJ::eK::eL::eM::z) H)) := by kernel_rfl
def Sb92_3 (I : Nat → V → V → V → V → V → V → V → Heap → Prop) : Nat → List V → Heap → Prop := fun i ts H => ts.length = 141 ∧ I i (ts.getD 0 undefV) (ts.getD 1 undefV) (ts.getD 2 undefV) (ts.getD 3 undefV) (ts.getD 9 undefV) (ts.getD 10 undefV) (ts.getD 11 undefV) H
@[simp] theorem Sb92_3_eq {I : Nat → V → V → V → V → V → V → V → Heap → Prop} {i : Nat} : Sb92_3 I i (x0::x1::x2::x3::x4::x5::x6::x7::x8::x9::aA::aB::aC::aD::aE::aF::aG::aH::aI::aJ::aK::aL::aM::aN::aO::aP::aQ::aR::aS::aT::aU::aV::aW::aX::aY::aZ::cA::cB::cC::cD::cE::cF::cG::cH::cI::cJ::cK::cL::cM::cN::cO::cP::cQ::cR::cS::cT::cU::cV::cW::cX::cY::cZ::dA::dB::dC::dD::dE::dF::dG::dH::dI::dJ::dK::dL::dM::dN::dO::dP::dQ::dR::dS::dT::dU::dV::dW::dX::dY::dZ::eA::eB::eC::eD::eE::eF::eG::eH::eI::eJ::eK::eL::eM::eN::eO::eP::eQ::eR::eS::eT::eU::eV::eW::eX::eY::eZ::fA::fB::fC::fD::fE::fF::fG::fH::fI::fJ::fK::fL::fM::fN::fO::fP::fQ::fR::fS::fT::fU::fV::fW::fX::fY::fZ::gA::[]) H = I i x0 x1 x2 x3 x9 aA aB H := propext ⟨fun h => h.2,fun h => ⟨rfl,h⟩⟩
theorem ub92_3 (M : Nat) (I : Nat → V → V → V → V → V → V → V → Heap → Prop) (step : ∀ i,i ≤ M → ∀ (x0 x1 x2 x3 x9 aA aB : V) (H : Heap),I i x0 x1 x2 x3 x9 aA aB H → ∀ (x4 x5 x6 x7 x8 aC aD aE aF aG aH aI aJ aK aL aM aN aO aP aQ aR aS aT aU aV aW aX aY aZ cA cB cC cD cE cF cG cH cI cJ cK cL cM cN cO cP cQ cR cS cT cU cV cW cX cY cZ dA dB dC dD dE dF dG dH dI dJ dK dL dM dN dO dP dQ dR dS dT dU dV dW dX dY dZ eA eB eC eD eE eF eG eH eI eJ eK eL eM eN eO eP eQ eR eS eT eU eV eW eX eY eZ fA fB fC fD fE fF fG fH fI fJ fK fL fM fN fO fP fQ fR fS fT fU fV fW fX fY fZ gA : V),wp G b92_3 (x0::x1::x2::x3::x4::x5::x6::x7::x8::x9::aA::aB::aC::aD::aE::aF::aG::aH::aI::aJ::aK::aL::aM::aN::aO::aP::aQ::aR::aS::aT::aU::aV::aW::aX::aY::aZ::cA::cB::cC::cD::cE::cF::cG::cH::cI::cJ::cK::cL::cM::cN::cO::cP::cQ::cR::cS::cT::cU::cV::cW::cX::cY::cZ::dA::dB::dC::dD::dE::dF::dG::dH::dI::dJ::dK::dL::dM::dN::dO::dP::dQ::dR::dS::dT::dU::dV::dW::dX::dY::dZ::eA::eB::eC::eD::eE::eF::eG::eH::eI::eJ::eK::eL::eM::eN::eO::eP::eQ::eR::eS::eT::eU::eV::eW::eX::eY::eZ::fA::fB::fC::fD::fE::fF::fG::fH::fI::fJ::fK::fL::fM::fN::fO::fP::fQ::fR::fS::fT::fU::fV::fW::fX::fY::fZ::gA::[]) H (upQ M (Sb92_3 I) i Q)) (i : Nat) (hi : i ≤ M) (h : I i x0 x1 x2 x3 x9 aA aB H) : Lp G b92_3 (x0::x1::x2::x3::x4::x5::x6::x7::x8::x9::aA::aB::aC::aD::aE::aF::aG::aH::aI::aJ::aK::aL::aM::aN::aO::aP::aQ::aR::aS::aT::aU::aV::aW::aX::aY::aZ::cA::cB::cC::cD::cE::cF::cG::cH::cI::cJ::cK::cL::cM::cN::cO::cP::cQ::cR::cS::cT::cU::cV::cW::cX::cY::cZ::dA::dB::dC::dD::dE::dF::dG::dH::dI::dJ::dK::dL::dM::dN::dO::dP::dQ::dR::dS::dT::dU::dV::dW::dX::dY::dZ::eA::eB::eC::eD::eE::eF::eG::eH::eI::eJ::eK::eL::eM::eN::eO::eP::eQ::eR::eS::eT::eU::eV::eW::eX::eY::eZ::fA::fB::fC::fD::fE::fF::fG::fH::fI::fJ::fK::fL::fM::fN::fO::fP::fQ::fR::fS::fT::fU::fV::fW::fX::fY::fZ::gA::[]) H Q :=
  Lp.up (S := Sb92_3 I) (fun i t H hi hS => (congrArg (fun t => wp G b92_3 t H (upQ M (Sb92_3 I) i Q)) (tabF_eq hS.1)).mpr (step i hi _ _ _ _ _ _ _ H hS.2 ..)) _ i _ H rfl hi ⟨rfl,h⟩
theorem wr92_4 : wp G r92_4 (x0::x1::x2::x3::x4::x5::x6::x7::x8::x9::aA::aB::aC::aD::aE::aF::aG::aH::aI::aJ::aK::aL::aM::aN::aO::aP::aQ::aR::aS::aT::aU::aV::aW::aX::aY::aZ::cA::cB::cC::cD::cE::cF::cG::cH::cI::cJ::cK::cL::cM::cN::cO::cP::cQ::cR::cS::cT::cU::cV::cW::cX::cY::cZ::dA::dB::dC::dD::dE::dF::dG::dH::dI::dJ::dK::dL::dM::dN::dO::dP::dQ::dR::dS::dT::dU::dV::dW::dX::dY::dZ::eA::eB::eC::eD::eE::eF::eG::eH::eI::eJ::eK::eL::eM::eN::eO::eP::eQ::eR::eS::z) H Q = (
  bd (binV .sub x2 x9) fun p0=>
  bd (binV .geq p0 (.int .i64 2)) fun p1=>
  ifB p1
   (bd (binV .add x9 (.int .i64 1)) fun p2=>
   Lp G b92_5 (x0::x1::x2::x3::x4::x5::x6::x7::x8::x9::aA::aB::p2::aD::aE::aF::aG::aH::aI::aJ::aK::aL::aM::aN::aO::aP::aQ::aR::aS::aT::aU::aV::aW::aX::aY::aZ::cA::cB::cC::cD::cE::cF::cG::cH::cI::cJ::cK::cL::cM::cN::cO::cP::cQ::cR::cS::cT::cU::cV::cW::cX::cY::cZ::dA::dB::dC::dD::dE::dF::dG::dH::dI::dJ::dK::dL::dM::dN::dO::dP::dQ::dR::dS::dT::dU::dV::dW::dX::dY::dZ::eA::eB::eC::eD::eE::eF::eG::eH::eI::eJ::eK::eL::eM::x2::x9::p0::p1::x9::p2::z) H (blockQ 6 Q))
   (Q .n (x0::x1::x2::x3::x4::x5::x6::x7::x8::x9::aA::aB::aC::aD::aE::aF::aG::aH::aI::aJ::aK::aL::aM::aN::aO::aP::aQ::aR::aS::aT::aU::aV::aW::aX::aY::aZ::cA::cB::cC::cD::cE::cF::cG::cH::cI::cJ::cK::cL::cM::cN::cO::cP::cQ::cR::cS::cT::cU::cV::cW::cX::cY::cZ::dA::dB::dC::dD::dE::dF::dG::dH::dI::dJ::dK::dL::dM::dN::dO::dP::dQ::dR::dS::dT::dU::dV::dW::dX::dY::dZ::eA::eB::eC::eD::eE::eF::eG::eH::eI::eJ::eK::eL::eM::x2::x9::p0::p1::eR::eS::z) H)) := by kernel_rfl
def Wr92_4 (x0 x1 x2 x3 x9 aA : V) (H : Heap) (Q : Cont) : Prop := ∀ (x4 x5 x6 x7 x8 aB aC aD aE aF aG aH aI aJ aK aL aM aN aO aP aQ aR aS aT aU aV aW aX aY aZ cA cB cC cD cE cF cG cH cI cJ cK cL cM cN cO cP cQ cR cS cT cU cV cW cX cY cZ dA dB dC dD dE dF dG dH dI dJ dK dL dM dN dO dP dQ dR dS dT dU dV dW dX dY dZ eA eB eC eD eE eF eG eH eI eJ eK eL eM eN eO eP eQ eR eS eT eU eV eW eX eY eZ fA fB fC fD fE fF fG fH fI fJ fK fL fM fN fO fP fQ fR fS fT fU fV fW fX fY fZ gA : V),wp G r92_4 (x0::x1::x2::x3::x4::x5::x6::x7::x8::x9::aA::aB::aC::aD::aE::aF::aG::aH::aI::aJ::aK::aL::aM::aN::aO::aP::aQ::aR::aS::aT::aU::aV::aW::aX::aY::aZ::cA::cB::cC::cD::cE::cF::cG::cH::cI::cJ::cK::cL::cM::cN::cO::cP::cQ::cR::cS::cT::cU::cV::cW::cX::cY::cZ::dA::dB::dC::dD::dE::dF::dG::dH::dI::dJ::dK::dL::dM::dN::dO::dP::dQ::dR::dS::dT::dU::dV::dW::dX::dY::dZ::eA::eB::eC::eD::eE::eF::eG::eH::eI::eJ::eK::eL::eM::eN::eO::eP::eQ::eR::eS::eT::eU::eV::eW::eX::eY::eZ::fA::fB::fC::fD::fE::fF::fG::fH::fI::fJ::fK::fL::fM::fN::fO::fP::fQ::fR::fS::fT::fU::fV::fW::fX::fY::fZ::gA::[]) H Q
theorem wb92_5 : wp G b92_5 (x0::x1::x2::x3::x4::x5::x6::x7::x8::x9::aA::aB::aC::aD::aE::aF::aG::aH::aI::aJ::aK::aL::aM::aN::aO::aP::aQ::aR::aS::aT::aU::aV::aW::aX::aY::aZ::cA::cB::cC::cD::cE::cF::cG::cH::cI::cJ::cK::cL::cM::cN::cO::cP::cQ::cR::cS::cT::cU::cV::cW::cX::cY::cZ::dA::dB::dC::dD::dE::dF::dG::dH::dI::dJ::dK::dL::dM::dN::dO::dP::dQ::dR::dS::dT::dU::dV::dW::dX::dY::dZ::eA::eB::eC::eD::eE::eF::eG::eH::eI::eJ::eK::eL::eM::eN::eO::eP::eQ::eR::eS::eT::eU::eV::eW::eX::eY::eZ::fA::fB::fC::fD::fE::fF::fG::fH::fI::fJ::fK::fL::fM::fN::fO::fP::fQ::fR::fS::fT::fU::fV::fW::fX::fY::fZ::gA::[]) H Q = (
  bd (binV .lss aC x2) fun p0=>
  ifB p0
   (bd (iadrV 2 x0 aC) fun p1=>
   bd (ldV H p1 2 true) fun p2=>
   bd (binV .sub aC (.int .i64 1)) fun p3=>
   bd (iadrV 2 x0 p3) fun p4=>
   bd (ldV H p4 2 true) fun p5=>
   bd (callV x3) fun c => (true || G.pur c.1) = true ∧ Cl G c.1 ([p2,p5] ++ c.2) H fun p6 p7=>
   bd (binV .lss p6 (.int .i64 0)) fun p8=>
   bd (unV .not p8) fun p9=>
   ifB p9
    (Q (.e 6) (x0::x1::x2::x3::x4::x5::x6::x7::x8::x9::aA::aB::aC::aD::aE::aF::aG::aH::aI::aJ::aK::aL::aM::aN::aO::aP::aQ::aR::aS::aT::aU::aV::aW::aX::aY::aZ::cA::cB::cC::cD::cE::cF::cG::cH::cI::cJ::cK::cL::cM::cN::cO::cP::cQ::cR::cS::cT::cU::cV::cW::cX::cY::cZ::dA::dB::dC::dD::dE::dF::dG::dH::dI::dJ::dK::dL::dM::dN::dO::dP::dQ::dR::dS::dT::dU::dV::dW::dX::dY::dZ::eA::eB::eC::eD::eE::eF::eG::eH::eI::eJ::eK::eL::eM::eN::eO::eP::eQ::eR::eS::aC::x2::p0::eW::eX::x3::x0::aC::p1::p2::x0::aC::p3::p4::p5::p6::p8::p9::fL::fM::fN::fO::fP::fQ::fR::fS::fT::fU::fV::fW::fX::fY::fZ::gA::[]) p7)
    (bd (binV .sub aC (.int .i64 1)) fun pA=>
    bd (binV .sub aC (.int .i64 1)) fun pB=>
    bd (iadrV 2 x0 pB) fun pC=>
    bd (ldV p7 pC 2 true) fun pD=>
    bd (iadrV 2 x0 aC) fun pE=>
    bd (ldV p7 pE 2 true) fun pF=>
    bd (iadrV 2 x0 aC) fun pG=>
    true = true ∧ bd (stV p7 2 pG pD) fun pH=>
    bd (iadrV 2 x0 pA) fun pI=>
    true = true ∧ bd (stV pH 2 pI pF) fun pJ=>
    bd (binV .add aC (.int .i64 1)) fun pK=>
    Q .n (x0::x1::x2::x3::x4::x5::x6::x7::x8::x9::aA::aB::pK::aD::aE::aF::aG::aH::aI::aJ::aK::aL::aM::aN::aO::aP::aQ::aR::aS::aT::aU::aV::aW::aX::aY::aZ::cA::cB::cC::cD::cE::cF::cG::cH::cI::cJ::cK::cL::cM::cN::cO::cP::cQ::cR::cS::cT::cU::cV::cW::cX::cY::cZ::dA::dB::dC::dD::dE::dF::dG::dH::dI::dJ::dK::dL::dM::dN::dO::dP::dQ::dR::dS::dT::dU::dV::dW::dX::dY::dZ::eA::eB::eC::eD::eE::eF::eG::eH::eI::eJ::eK::eL::eM::eN::eO::eP::eQ::eR::eS::aC::x2::p0::aC::pK::x3::x0::aC::p1::p2::x0::aC::p3::p4::p5::p6::p8::p9::x0::aC::x0::aC::pA::x0::aC::pB::pC::pD::x0::aC::pE::pF::pG::pI::[]) pJ))
   (Q (.e 6) (x0::x1::x2::x3::x4::x5::x6::x7::x8::x9::aA::aB::aC::aD::aE::aF::aG::aH::aI::aJ::aK::aL::aM::aN::aO::aP::aQ::aR::aS::aT::aU::aV::aW::aX::aY::aZ::cA::cB::cC::cD::cE::cF::cG::cH::cI::cJ::cK::cL::cM::cN::cO::cP::cQ::cR::cS::cT::cU::cV::cW::cX::cY::cZ::dA::dB::dC::dD::dE::dF::dG::dH::dI::dJ::dK::dL::dM::dN::dO::dP::dQ::dR::dS::dT::dU::dV::dW::dX::dY::dZ::eA::eB::eC::eD::eE::eF::eG::eH::eI::eJ::eK::eL::eM::eN::eO::eP::eQ::eR::eS::aC::x2::p0::eW::eX::eY::eZ::fA::fB::fC::fD::fE::fF::fG::fH::fI::fJ::fK::fL::fM::fN::fO::fP::fQ::fR::fS::fT::fU::fV::fW::fX::fY::fZ::gA::[]) H)) := by kernel_rfl
def Sb92_5 (I : Nat → V → V → V → V → V → V → V → Heap → Prop) : Nat → List V → Heap → Prop := fun i ts H => ts.length = 141 ∧ I i (ts.getD 0 undefV) (ts.getD 1 undefV) (ts.getD 2 undefV) (ts.getD 3 undefV) (ts.getD 9 undefV) (ts.getD 10 undefV) (ts.getD 12 undefV) H
@[simp] theorem Sb92_5_eq {I : Nat → V → V → V → V → V → V → V → Heap → Prop} {i : Nat} : Sb92_5 I i (x0::x1::x2::x3::x4::x5::x6::x7::x8::x9::aA::aB::aC::aD::aE::aF::aG::aH::aI::aJ::aK::aL::aM::aN::aO::aP::aQ::aR::aS::aT::aU::aV::aW::aX::aY::aZ::cA::cB::cC::cD::cE::cF::cG::cH::cI::cJ::cK::cL::cM::cN::cO::cP::cQ::cR::cS::cT::cU::cV::cW::cX::cY::cZ::dA::dB::dC::dD::dE::dF::dG::dH::dI::dJ::dK::dL::dM::dN::dO::dP::dQ::dR::dS::dT::dU::dV::dW::dX::dY::dZ::eA::eB::eC::eD::eE::eF::eG::eH::eI::eJ::eK::eL::eM::eN::eO::eP::eQ::eR::eS::eT::eU::eV::eW::eX::eY::eZ::fA::fB::fC::fD::fE::fF::fG::fH::fI::fJ::fK::fL::fM::fN::fO::fP::fQ::fR::fS::fT::fU::fV::fW::fX::fY::fZ::gA::[]) H = I i x0 x1 x2 x3 x9 aA aC H := propext ⟨fun h => h.2,fun h => ⟨rfl,h⟩⟩
theorem ub92_5 (M : Nat) (I : Nat → V → V → V → V → V → V → V → Heap → Prop) (step : ∀ i,i ≤ M → ∀ (x0 x1 x2 x3 x9 aA aC : V) (H : Heap),I i x0 x1 x2 x3 x9 aA aC H → ∀ (x4 x5 x6 x7 x8 aB aD aE aF aG aH aI aJ aK aL aM aN aO aP aQ aR aS aT aU aV aW aX aY aZ cA cB cC cD cE cF cG cH cI cJ cK cL cM cN cO cP cQ cR cS cT cU cV cW cX cY cZ dA dB dC dD dE dF dG dH dI dJ dK dL dM dN dO dP dQ dR dS dT dU dV dW dX dY dZ eA eB eC eD eE eF eG eH eI eJ eK eL eM eN eO eP eQ eR eS eT eU eV eW eX eY eZ fA fB fC fD fE fF fG fH fI fJ fK fL fM fN fO fP fQ fR fS fT fU fV fW fX fY fZ gA : V),wp G b92_5 (x0::x1::x2::x3::x4::x5::x6::x7::x8::x9::aA::aB::aC::aD::aE::aF::aG::aH::aI::aJ::aK::aL::aM::aN::aO::aP::aQ::aR::aS::aT::aU::aV::aW::aX::aY::aZ::cA::cB::cC::cD::cE::cF::cG::cH::cI::cJ::cK::cL::cM::cN::cO::cP::cQ::cR::cS::cT::cU::cV::cW::cX::cY::cZ::dA::dB::dC::dD::dE::dF::dG::dH::dI::dJ::dK::dL::dM::dN::dO::dP::dQ::dR::dS::dT::dU::dV::dW::dX::dY::dZ::eA::eB::eC::eD::eE::eF::eG::eH::eI::eJ::eK::eL::eM::eN::eO::eP::eQ::eR::eS::eT::eU::eV::eW::eX::eY::eZ::fA::fB::fC::fD::fE::fF::fG::fH::fI::fJ::fK::fL::fM::fN::fO::fP::fQ::fR::fS::fT::fU::fV::fW::fX::fY::fZ::gA::[]) H (upQ M (Sb92_5 I) i Q)) (i : Nat) (hi : i ≤ M) (h : I i x0 x1 x2 x3 x9 aA aC H) : Lp G b92_5 (x0::x1::x2::x3::x4::x5::x6::x7::x8::x9::aA::aB::aC::aD::aE::aF::aG::aH::aI::aJ::aK::aL::aM::aN::aO::aP::aQ::aR::aS::aT::aU::aV::aW::aX::aY::aZ::cA::cB::cC::cD::cE::cF::cG::cH::cI::cJ::cK::cL::cM::cN::cO::cP::cQ::cR::cS::cT::cU::cV::cW::cX::cY::cZ::dA::dB::dC::dD::dE::dF::dG::dH::dI::dJ::dK::dL::dM::dN::dO::dP::dQ::dR::dS::dT::dU::dV::dW::dX::dY::dZ::eA::eB::eC::eD::eE::eF::eG::eH::eI::eJ::eK::eL::eM::eN::eO::eP::eQ::eR::eS::eT::eU::eV::eW::eX::eY::eZ::fA::fB::fC::fD::fE::fF::fG::fH::fI::fJ::fK::fL::fM::fN::fO::fP::fQ::fR::fS::fT::fU::fV::fW::fX::fY::fZ::gA::[]) H Q :=
  Lp.up (S := Sb92_5 I) (fun i t H hi hS => (congrArg (fun t => wp G b92_5 t H (upQ M (Sb92_5 I) i Q)) (tabF_eq hS.1)).mpr (step i hi _ _ _ _ _ _ _ H hS.2 ..)) _ i _ H rfl hi ⟨rfl,h⟩
theorem wr92_6 : wp G r92_6 (x0::x1::x2::x3::x4::x5::x6::x7::x8::x9::aA::aB::aC::aD::aE::aF::aG::aH::aI::z) H Q = (
  bd (binV .add aA (.int .i64 1)) fun p0=>
  Q .n (x0::x1::x2::x3::x4::x5::x6::x7::x8::x9::p0::aB::aC::aD::aE::aF::aG::aA::p0::z) H) := by kernel_rfl
theorem wr92_7 : wp G r92_7 (x0::x1::x2::x3::x4::x5::x6::x7::x8::z) H Q = (
  Q .r (x0::x1::x2::x3::x4::x5::x6::x7::(.bool false)::z) H) := by kernel_rfl
theorem w94 : runW G i94 [x0,x1,x2,x3,x4] H k = (
  bd (iadrV 2 x0 x3) fun p0=>
  bd (ldV H p0 2 true) fun p1=>
  bd (iadrV 2 x0 x1) fun p2=>
  bd (ldV H p2 2 true) fun p3=>
  bd (iadrV 2 x0 x1) fun p4=>
  true = true ∧ bd (stV H 2 p4 p1) fun p5=>
  bd (iadrV 2 x0 x3) fun p6=>
  true = true ∧ bd (stV p5 2 p6 p3) fun p7=>
  bd (binV .add x1 (.int .i64 1)) fun p8=>
  bd (binV .sub x2 (.int .i64 1)) fun p9=>
  Lp G b94_0 (x0::x1::x2::x3::x4::undefV::undefV::undefV::undefV::undefV::(.int .i64 0)::(.bool false)::p8::p9::x0::x1::x0::x3::x0::x3::p0::p1::x0::x1::p2::p3::p4::p6::x1::p8::x2::p9::undefV::undefV::undefV::undefV::undefV::undefV::undefV::undefV::undefV::undefV::undefV::undefV::undefV::undefV::undefV::undefV::undefV::undefV::undefV::undefV::undefV::undefV::undefV::undefV::undefV::undefV::undefV::undefV::undefV::undefV::undefV::undefV::undefV::undefV::undefV::undefV::undefV::undefV::undefV::undefV::undefV::undefV::undefV::undefV::undefV::undefV::undefV::undefV::undefV::undefV::undefV::undefV::undefV::undefV::undefV::undefV::undefV::undefV::undefV::undefV::undefV::undefV::undefV::undefV::undefV::undefV::undefV::undefV::undefV::undefV::undefV::undefV::undefV::undefV::undefV::undefV::undefV::undefV::undefV::undefV::undefV::undefV::undefV::undefV::undefV::undefV::undefV::undefV::undefV::undefV::undefV::undefV::undefV::undefV::undefV::undefV::undefV::undefV::undefV::undefV::undefV::undefV::undefV::undefV::undefV::undefV::undefV::undefV::undefV::undefV::undefV::undefV::undefV::undefV::undefV::undefV::undefV::undefV::undefV::undefV::undefV::undefV::undefV::undefV::undefV::undefV::undefV::undefV::undefV::undefV::undefV::undefV::undefV::undefV::undefV::undefV::undefV::undefV::undefV::undefV::undefV::undefV::undefV::undefV::undefV::undefV::[]) p7 (blockQ 0 (seqQ G r94_1 (retQ i94 k)))) := by kernel_rfl
@[simp] theorem ret94 : retQ i94 k .r (x0::x1::x2::x3::x4::x5::x6::x7::x8::x9::aA::aB::z) H = k (.tup [aA,aB]) H := nrfl
theorem wb94_0 : wp G b94_0 (x0::x1::x2::x3::x4::x5::x6::x7::x8::x9::aA::aB::aC::aD::aE::aF::aG::aH::aI::aJ::aK::aL::aM::aN::aO::aP::aQ::aR::aS::aT::aU::aV::aW::aX::aY::aZ::cA::cB::cC::cD::cE::cF::cG::cH::cI::cJ::cK::cL::cM::cN::z) H Q = (
  bd (binV .leq aC aD) fun p0=>
  wpg (gdV p0 true) H (fun k => k x4 H) fun p1 p2=>
  wpg (gdV p0 true) p2 (fun k => k x0 p2) fun p3 p4=>
  wpg (gdV p0 true) p4 (fun k => k aC p4) fun p5 p6=>
  wpg (gdV p0 true) p6 (fun k => bd (iadrV 2 p3 p5) fun p7 => k p7 p6) fun p8 p9=>
  wpg (gdV p0 true) p9 (fun k => bd (ldV p9 p8 2 true) fun pA => k pA p9) fun pB pC=>
  wpg (gdV p0 true) pC (fun k => k x0 pC) fun pD pE=>
  wpg (gdV p0 true) pE (fun k => k x1 pE) fun pF pG=>
  wpg (gdV p0 true) pG (fun k => bd (iadrV 2 pD pF) fun pH => k pH pG) fun pI pJ=>
  wpg (gdV p0 true) pJ (fun k => bd (ldV pJ pI 2 true) fun pK => k pK pJ) fun pL pM=>
  wpg (gdV p0 true) pM (fun k => bd (callV p1) fun c => (true || G.pur c.1) = true ∧ Cl G c.1 ([pB,pL] ++ c.2) pM fun pN pO => k pN pO) fun pP pQ=>
  wpg (gdV p0 true) pQ (fun k => bd (binV .lss pP (.int .i64 0)) fun pR => k pR pQ) fun pS pT=>
  bd (pickV p0 pS (.bool false)) fun pU=>
  ifB pU
   (bd (binV .add aC (.int .i64 1)) fun pV=>
   Q .n (x0::x1::x2::x3::x4::x5::x6::x7::x8::x9::aA::aB::pV::aD::aE::aF::aG::aH::aI::aJ::aK::aL::aM::aN::aO::aP::aQ::aR::aS::aT::aU::aV::aC::aD::p0::p0::p1::p3::p5::p8::pB::pD::pF::pI::pL::pP::pS::pU::aC::pV::z) pT)
   (Q (.e 0) (x0::x1::x2::x3::x4::x5::x6::x7::x8::x9::aA::aB::aC::aD::aE::aF::aG::aH::aI::aJ::aK::aL::aM::aN::aO::aP::aQ::aR::aS::aT::aU::aV::aC::aD::p0::p0::p1::p3::p5::p8::pB::pD::pF::pI::pL::pP::pS::pU::cM::cN::z) pT)) := by kernel_rfl
def Sb94_0 (I : Nat → V → V → V → V → V → Heap → Prop) : Nat → List V → Heap → Prop := fun i ts H => ts.length = 178 ∧ I i (ts.getD 0 undefV) (ts.getD 1 undefV) (ts.getD 4 undefV) (ts.getD 12 undefV) (ts.getD 13 undefV) H
@[simp] theorem Sb94_0_eq {I : Nat → V → V → V → V → V → Heap → Prop} {i : Nat} : Sb94_0 I i (x0::x1::x2::x3::x4::x5::x6::x7::x8::x9::aA::aB::aC::aD::aE::aF::aG::aH::aI::aJ::aK::aL::aM::aN::aO::aP::aQ::aR::aS::aT::aU::aV::aW::aX::aY::aZ::cA::cB::cC::cD::cE::cF::cG::cH::cI::cJ::cK::cL::cM::cN::cO::cP::cQ::cR::cS::cT::cU::cV::cW::cX::cY::cZ::dA::dB::dC::dD::dE::dF::dG::dH::dI::dJ::dK::dL::dM::dN::dO::dP::dQ::dR::dS::dT::dU::dV::dW::dX::dY::dZ::eA::eB::eC::eD::eE::eF::eG::eH::eI::eJ::eK::eL::eM::eN::eO::eP::eQ::eR::eS::eT::eU::eV::eW::eX::eY::eZ::fA::fB::fC::fD::fE::fF::fG::fH::fI::fJ::fK::fL::fM::fN::fO::fP::fQ::fR::fS::fT::fU::fV::fW::fX::fY::fZ::gA::gB::gC::gD::gE::gF::gG::gH::gI::gJ::gK::gL::gM::gN::gO::gP::gQ::gR::gS::gT::gU::gV::gW::gX::gY::gZ::hA::hB::hC::hD::hE::hF::hG::hH::hI::hJ::hK::hL::[]) H = I i x0 x1 x4 aC aD H := propext ⟨fun h => h.2,fun h => ⟨rfl,h⟩⟩
theorem ub94_0 (M : Nat) (I : Nat → V → V → V → V → V → Heap → Prop) (step : ∀ i,i ≤ M → ∀ (x0 x1 x4 aC aD : V) (H : Heap),I i x0 x1 x4 aC aD H → ∀ (x2 x3 x5 x6 x7 x8 x9 aA aB aE aF aG aH aI aJ aK aL aM aN aO aP aQ aR aS aT aU aV aW aX aY aZ cA cB cC cD cE cF cG cH cI cJ cK cL cM cN cO cP cQ cR cS cT cU cV cW cX cY cZ dA dB dC dD dE dF dG dH dI dJ dK dL dM dN dO dP dQ dR dS dT dU dV dW dX dY dZ eA eB eC eD eE eF eG eH eI eJ eK eL eM eN eO eP eQ eR eS eT eU eV eW eX eY eZ fA fB fC fD fE fF fG fH fI fJ fK fL fM fN fO fP fQ fR fS fT fU fV fW fX fY fZ gA gB gC gD gE gF gG gH gI gJ gK gL gM gN gO gP gQ gR gS gT gU gV gW gX gY gZ hA hB hC hD hE hF hG hH hI hJ hK hL : V),wp G b94_0 (x0::x1::x2::x3::x4::x5::x6::x7::x8::x9::aA::aB::aC::aD::aE::aF::aG::aH::aI::aJ::aK::aL::aM::aN::aO::aP::aQ::aR::aS::aT::aU::aV::aW::aX::aY::aZ::cA::cB::cC::cD::cE::cF::cG::cH::cI::cJ::cK::cL::cM::cN::cO::cP::cQ::cR::cS::cT::cU::cV::cW::cX::cY::cZ::dA::dB::dC::dD::dE::dF::dG::dH::dI::dJ::dK::dL::dM::dN::dO::dP::dQ::dR::dS::dT::dU::dV::dW::dX::dY::dZ::eA::eB::eC::eD::eE::eF::eG::eH::eI::eJ::eK::eL::eM::eN::eO::eP::eQ::eR::eS::eT::eU::eV::eW::eX::eY::eZ::fA::fB::fC::fD::fE::fF::fG::fH::fI::fJ::fK::fL::fM::fN::fO::fP::fQ::fR::fS::fT::fU::fV::fW::fX::fY::fZ::gA::gB::gC::gD::gE::gF::gG::gH::gI::gJ::gK::gL::gM::gN::gO::gP::gQ::gR::gS::gT::gU::gV::gW::gX::gY::gZ::hA::hB::hC::hD::hE::hF::hG::hH::hI::hJ::hK::hL::[]) H (upQ M (Sb94_0 I) i Q)) (i : Nat) (hi : i ≤ M) (h : I i x0 x1 x4 aC aD H) : Lp G b94_0 (x0::x1::x2::x3::x4::x5::x6::x7::x8::x9::aA::aB::aC::aD::aE::aF::aG::aH::aI::aJ::aK::aL::aM::aN::aO::aP::aQ::aR::aS::aT::aU::aV::aW::aX::aY::aZ::cA::cB::cC::cD::cE::cF::cG::cH::cI::cJ::cK::cL::cM::cN::cO::cP::cQ::cR::cS::cT::cU::cV::cW::cX::cY::cZ::dA::dB::dC::dD::dE::dF::dG::dH::dI::dJ::dK::dL::dM::dN::dO::dP::dQ::dR::dS::dT::dU::dV::dW::dX::dY::dZ::eA::eB::eC::eD::eE::eF::eG::eH::eI::eJ::eK::eL::eM::eN::eO::eP::eQ::eR::eS::eT::eU::eV::eW::eX::eY::eZ::fA::fB::fC::fD::fE::fF::fG::fH::fI::fJ::fK::fL::fM::fN::fO::fP::fQ::fR::fS::fT::fU::fV::fW::fX::fY::fZ::gA::gB::gC::gD::gE::gF::gG::gH::gI::gJ::gK::gL::gM::gN::gO::gP::gQ::gR::gS::gT::gU::gV::gW::gX::gY::gZ::hA::hB::hC::hD::hE::hF::hG::hH::hI::hJ::hK::hL::[]) H Q :=
  Lp.up (S := Sb94_0 I) (fun i t H hi hS => (congrArg (fun t => wp G b94_0 t H (upQ M (Sb94_0 I) i Q)) (tabF_eq hS.1)).mpr (step i hi _ _ _ _ _ H hS.2 ..)) _ i _ H rfl hi ⟨rfl,h⟩
theorem wr94_1 : wp G r94_1 (z) H Q = (
  Lp G b94_2 (z) H (blockQ 2 (seqQ G r94_3 Q))) := by kernel_rfl
def Wr94_1 (x0 x1 x4 aC aD : V) (H : Heap) (Q : Cont) : Prop := ∀ (x2 x3 x5 x6 x7 x8 x9 aA aB aE aF aG aH aI aJ aK aL aM aN aO aP aQ aR aS aT aU aV aW aX aY aZ cA cB cC cD cE cF cG cH cI cJ cK cL cM cN cO cP cQ cR cS cT cU cV cW cX cY cZ dA dB dC dD dE dF dG dH dI dJ dK dL dM dN dO dP dQ dR dS dT dU dV dW dX dY dZ eA eB eC eD eE eF eG eH eI eJ eK eL eM eN eO eP eQ eR eS eT eU eV eW eX eY eZ fA fB fC fD fE fF fG fH fI fJ fK fL fM fN fO fP fQ fR fS fT fU fV fW fX fY fZ gA gB gC gD gE gF gG gH gI gJ gK gL gM gN gO gP gQ gR gS gT gU gV gW gX gY gZ hA hB hC hD hE hF hG hH hI hJ hK hL : V),wp G r94_1 (x0::x1::x2::x3::x4::x5::x6::x7::x8::x9::aA::aB::aC::aD::aE::aF::aG::aH::aI::aJ::aK::aL::aM::aN::aO::aP::aQ::aR::aS::aT::aU::aV::aW::aX::aY::aZ::cA::cB::cC::cD::cE::cF::cG::cH::cI::cJ::cK::cL::cM::cN::cO::cP::cQ::cR::cS::cT::cU::cV::cW::cX::cY::cZ::dA::dB::dC::dD::dE::dF::dG::dH::dI::dJ::dK::dL::dM::dN::dO::dP::dQ::dR::dS::dT::dU::dV::dW::dX::dY::dZ::eA::eB::eC::eD::eE::eF::eG::eH::eI::eJ::eK::eL::eM::eN::eO::eP::eQ::eR::eS::eT::eU::eV::eW::eX::eY::eZ::fA::fB::fC::fD::fE::fF::fG::fH::fI::fJ::fK::fL::fM::fN::fO::fP::fQ::fR::fS::fT::fU::fV::fW::fX::fY::fZ::gA::gB::gC::gD::gE::gF::gG::gH::gI::gJ::gK::gL::gM::gN::gO::gP::gQ::gR::gS::gT::gU::gV::gW::gX::gY::gZ::hA::hB::hC::hD::hE::hF::hG::hH::hI::hJ::hK::hL::[]) H Q
theorem wb94_2 : wp G b94_2 (x0::x1::x2::x3::x4::x5::x6::x7::x8::x9::aA::aB::aC::aD::aE::aF::aG::aH::aI::aJ::aK::aL::aM::aN::aO::aP::aQ::aR::aS::aT::aU::aV::aW::aX::aY::aZ::cA::cB::cC::cD::cE::cF::cG::cH::cI::cJ::cK::cL::cM::cN::cO::cP::cQ::cR::cS::cT::cU::cV::cW::cX::cY::cZ::dA::dB::dC::dD::dE::dF::dG::z) H Q = (
  bd (binV .leq aC aD) fun p0=>
  wpg (gdV p0 true) H (fun k => k x4 H) fun p1 p2=>
  wpg (gdV p0 true) p2 (fun k => k x0 p2) fun p3 p4=>
  wpg (gdV p0 true) p4 (fun k => k aD p4) fun p5 p6=>
  wpg (gdV p0 true) p6 (fun k => bd (iadrV 2 p3 p5) fun p7 => k p7 p6) fun p8 p9=>
  wpg (gdV p0 true) p9 (fun k => bd (ldV p9 p8 2 true) fun pA => k pA p9) fun pB pC=>
  wpg (gdV p0 true) pC (fun k => k x0 pC) fun pD pE=>
  wpg (gdV p0 true) pE (fun k => k x1 pE) fun pF pG=>
  wpg (gdV p0 true) pG (fun k => bd (iadrV 2 pD pF) fun pH => k pH pG) fun pI pJ=>
  wpg (gdV p0 true) pJ (fun k => bd (ldV pJ pI 2 true) fun pK => k pK pJ) fun pL pM=>
  wpg (gdV p0 true) pM (fun k => bd (callV p1) fun c => (true || G.pur c.1) = true ∧ Cl G c.1 ([pB,pL] ++ c.2) pM fun pN pO => k pN pO) fun pP pQ=>
  wpg (gdV p0 true) pQ (fun k => bd (binV .lss pP (.int .i64 0)) fun pR => k pR pQ) fun pS pT=>
  wpg (gdV p0 true) pT (fun k => bd (unV .not pS) fun pU => k pU pT) fun pV pW=>
  bd (pickV p0 pV (.bool false)) fun pX=>
  ifB pX
   (bd (binV .sub aD (.int .i64 1)) fun pY=>
   Q .n (x0::x1::x2::x3::x4::x5::x6::x7::x8::x9::aA::aB::aC::pY::aE::aF::aG::aH::aI::aJ::aK::aL::aM::aN::aO::aP::aQ::aR::aS::aT::aU::aV::aW::aX::aY::aZ::cA::cB::cC::cD::cE::cF::cG::cH::cI::cJ::cK::cL::cM::cN::aC::aD::p0::p0::p1::p3::p5::p8::pB::pD::pF::pI::pL::pP::pS::pV::pX::aD::pY::z) pW)
   (Q (.e 2) (x0::x1::x2::x3::x4::x5::x6::x7::x8::x9::aA::aB::aC::aD::aE::aF::aG::aH::aI::aJ::aK::aL::aM::aN::aO::aP::aQ::aR::aS::aT::aU::aV::aW::aX::aY::aZ::cA::cB::cC::cD::cE::cF::cG::cH::cI::cJ::cK::cL::cM::cN::aC::aD::p0::p0::p1::p3::p5::p8::pB::pD::pF::pI::pL::pP::pS::pV::pX::dF::dG::z) pW)) := by kernel_rfl
def Sb94_2 (I : Nat → V → V → V → V → V → Heap → Prop) : Nat → List V → Heap → Prop := fun i ts H => ts.length = 178 ∧ I i (ts.getD 0 undefV) (ts.getD 1 undefV) (ts.getD 4 undefV) (ts.getD 12 undefV) (ts.getD 13 undefV) H
@[simp] theorem Sb94_2_eq {I : Nat → V → V → V → V → V → Heap → Prop} {i : Nat} : Sb94_2 I i (x0::x1::x2::x3::x4::x5::x6::x7::x8::x9::aA::aB::aC::aD::aE::aF::aG::aH::aI::aJ::aK::aL::aM::aN::aO::aP::aQ::aR::aS::aT::aU::aV::aW::aX::aY::aZ::cA::cB::cC::cD::cE::cF::cG::cH::cI::cJ::cK::cL::cM::cN::cO::cP::cQ::cR::cS::cT::cU::cV::cW::cX::cY::cZ::dA::dB::dC::dD::dE::dF::dG::dH::dI::dJ::dK::dL::dM::dN::dO::dP::dQ::dR::dS::dT::dU::dV::dW::dX::dY::dZ::eA::eB::eC::eD::eE::eF::eG::eH::eI::eJ::eK::eL::eM::eN::eO::eP::eQ::eR::eS::eT::eU::eV::eW::eX::eY::eZ::fA::fB::fC::fD::fE::fF::fG::fH::fI::fJ::fK::fL::fM::fN::fO::fP::fQ::fR::fS::fT::fU::fV::fW::fX::fY::fZ::gA::gB::gC::gD::gE::gF::gG::gH::gI::gJ::gK::gL::gM::gN::gO::gP::gQ::gR::gS::gT::gU::gV::gW::gX::gY::gZ::hA::hB::hC::hD::hE::hF::hG::hH::hI::hJ::hK::hL::[]) H = I i x0 x1 x4 aC aD H := propext ⟨fun h => h.2,fun h => ⟨rfl,h⟩⟩
theorem ub94_2 (M : Nat) (I : Nat → V → V → V → V → V → Heap → Prop) (step : ∀ i,i ≤ M → ∀ (x0 x1 x4 aC aD : V) (H : Heap),I i x0 x1 x4 aC aD H → ∀ (x2 x3 x5 x6 x7 x8 x9 aA aB aE aF aG aH aI aJ aK aL aM aN aO aP aQ aR aS aT aU aV aW aX aY aZ cA cB cC cD cE cF cG cH cI cJ cK cL cM cN cO cP cQ cR cS cT cU cV cW cX cY cZ dA dB dC dD dE dF dG dH dI dJ dK dL dM dN dO dP dQ dR dS dT dU dV dW dX dY dZ eA eB eC eD eE eF eG eH eI eJ eK eL eM eN eO eP eQ eR eS eT eU eV eW eX eY eZ fA fB fC fD fE fF fG fH fI fJ fK fL fM fN fO fP fQ fR fS fT fU fV fW fX fY fZ gA gB gC gD gE gF gG gH gI gJ gK gL gM gN gO gP gQ gR gS gT gU gV gW gX gY gZ hA hB hC hD hE hF hG hH hI hJ hK hL : V),wp G b94_2 (x0::x1::x2::x3::x4::x5::x6::x7::x8::x9::aA::aB::aC::aD::aE::aF::aG::aH::aI::aJ::aK::aL::aM::aN::aO::aP::aQ::aR::aS::aT::aU::aV::aW::aX::aY::aZ::cA::cB::cC::cD::cE::cF::cG::cH::cI::cJ::cK::cL::cM::cN::cO::cP::cQ::cR::cS::cT::cU::cV::cW::cX::cY::cZ::dA::dB::dC::dD::dE::dF::dG::dH::dI::dJ::dK::dL::dM::dN::dO::dP::dQ::dR::dS::dT::dU::dV::dW::dX::dY::dZ::eA::eB::eC::eD::eE::eF::eG::eH::eI::eJ::eK::eL::eM::eN::eO::eP::eQ::eR::eS::eT::eU::eV::eW::eX::eY::eZ::fA::fB::fC::fD::fE::fF::fG::fH::fI::fJ::fK::fL::fM::fN::fO::fP::fQ::fR::fS::fT::fU::fV::fW::fX::fY::fZ::gA::gB::gC::gD::gE::gF::gG::gH::gI::gJ::gK::gL::gM::gN::gO::gP::gQ::gR::gS::gT::gU::gV::gW::gX::gY::gZ::hA::hB::hC::hD::hE::hF::hG::hH::hI::hJ::hK::hL::[]) H (upQ M (Sb94_2 I) i Q)) (i : Nat) (hi : i ≤ M) (h : I i x0 x1 x4 aC aD H) : Lp G b94_2 (x0::x1::x2::x3::x4::x5::x6::x7::x8::x9::aA::aB::aC::aD::aE::aF::aG::aH::aI::aJ::aK::aL::aM::aN::aO::aP::aQ::aR::aS::aT::aU::aV::aW::aX::aY::aZ::cA::cB::cC::cD::cE::cF::cG::cH::cI::cJ::cK::cL::cM::cN::cO::cP::cQ::cR::cS::cT::cU::cV::cW::cX::cY::cZ::dA::dB::dC::dD::dE::dF::dG::dH::dI::dJ::dK::dL::dM::dN::dO::dP::dQ::dR::dS::dT::dU::dV::dW::dX::dY::dZ::eA::eB::eC::eD::eE::eF::eG::eH::eI::eJ::eK::eL::eM::eN::eO::eP::eQ::eR::eS::eT::eU::eV::eW::eX::eY::eZ::fA::fB::fC::fD::fE::fF::fG::fH::fI::fJ::fK::fL::fM::fN::fO::fP::fQ::fR::fS::fT::fU::fV::fW::fX::fY::fZ::gA::gB::gC::gD::gE::gF::gG::gH::gI::gJ::gK::gL::gM::gN::gO::gP::gQ::gR::gS::gT::gU::gV::gW::gX::gY::gZ::hA::hB::hC::hD::hE::hF::hG::hH::hI::hJ::hK::hL::[]) H Q :=
  Lp.up (S := Sb94_2 I) (fun i t H hi hS => (congrArg (fun t => wp G b94_2 t H (upQ M (Sb94_2 I) i Q)) (tabF_eq hS.1)).mpr (step i hi _ _ _ _ _ H hS.2 ..)) _ i _ H rfl hi ⟨rfl,h⟩
theorem wr94_3 : wp G r94_3 (x0::x1::x2::x3::x4::x5::x6::x7::x8::x9::aA::aB::aC::aD::aE::aF::aG::aH::aI::aJ::aK::aL::aM::aN::aO::aP::aQ::aR::aS::aT::aU::aV::aW::aX::aY::aZ::cA::cB::cC::cD::cE::cF::cG::cH::cI::cJ::cK::cL::cM::cN::cO::cP::cQ::cR::cS::cT::cU::cV::cW::cX::cY::cZ::dA::dB::dC::dD::dE::dF::dG::dH::dI::dJ::dK::dL::dM::dN::dO::dP::dQ::dR::dS::dT::dU::dV::dW::dX::dY::dZ::eA::eB::eC::eD::eE::eF::eG::eH::eI::eJ::eK::eL::eM::eN::eO::eP::eQ::z) H Q = (
  bd (binV .gtr aC aD) fun p0=>
  ifB p0
   (bd (iadrV 2 x0 x1) fun p1=>
   bd (ldV H p1 2 true) fun p2=>
   bd (iadrV 2 x0 aD) fun p3=>
   bd (ldV H p3 2 true) fun p4=>
   bd (iadrV 2 x0 aD) fun p5=>
   true = true ∧ bd (stV H 2 p5 p2) fun p6=>
   bd (iadrV 2 x0 x1) fun p7=>
   true = true ∧ bd (stV p6 2 p7 p4) fun p8=>
   Q .r (x0::x1::x2::x3::x4::x5::x6::x7::x8::x9::aD::(.bool true)::aC::aD::aE::aF::aG::aH::aI::aJ::aK::aL::aM::aN::aO::aP::aQ::aR::aS::aT::aU::aV::aW::aX::aY::aZ::cA::cB::cC::cD::cE::cF::cG::cH::cI::cJ::cK::cL::cM::cN::cO::cP::cQ::cR::cS::cT::cU::cV::cW::cX::cY::cZ::dA::dB::dC::dD::dE::dF::dG::aC::aD::p0::x0::aD::x0::x1::x0::x1::p1::p2::x0::aD::p3::p4::p5::p7::aD::dZ::eA::eB::eC::eD::eE::eF::eG::eH::eI::eJ::eK::eL::eM::eN::eO::eP::eQ::z) p8)
   (bd (iadrV 2 x0 aD) fun p9=>
   bd (ldV H p9 2 true) fun pA=>
   bd (iadrV 2 x0 aC) fun pB=>
   bd (ldV H pB 2 true) fun pC=>
   bd (iadrV 2 x0 aC) fun pD=>
   true = true ∧ bd (stV H 2 pD pA) fun pE=>
   bd (iadrV 2 x0 aD) fun pF=>
   true = true ∧ bd (stV pE 2 pF pC) fun pG=>
   bd (binV .add aC (.int .i64 1)) fun pH=>
   bd (binV .sub aD (.int .i64 1)) fun pI=>
   Lp G b94_4 (x0::x1::x2::x3::x4::x5::x6::x7::x8::x9::aA::aB::pH::pI::aE::aF::aG::aH::aI::aJ::aK::aL::aM::aN::aO::aP::aQ::aR::aS::aT::aU::aV::aW::aX::aY::aZ::cA::cB::cC::cD::cE::cF::cG::cH::cI::cJ::cK::cL::cM::cN::cO::cP::cQ::cR::cS::cT::cU::cV::cW::cX::cY::cZ::dA::dB::dC::dD::dE::dF::dG::aC::aD::p0::dK::dL::dM::dN::dO::dP::dQ::dR::dS::dT::dU::dV::dW::dX::dY::x0::aC::x0::aD::x0::aD::p9::pA::x0::aC::pB::pC::pD::pF::aC::pH::aD::pI::z) pG (blockQ 4 (seqQ G r94_9 Q)))) := by kernel_rfl
def Wr94_3 (x0 x1 x4 aC aD : V) (H : Heap) (Q : Cont) : Prop := ∀ (x2 x3 x5 x6 x7 x8 x9 aA aB aE aF aG aH aI aJ aK aL aM aN aO aP aQ aR aS aT aU aV aW aX aY aZ cA cB cC cD cE cF cG cH cI cJ cK cL cM cN cO cP cQ cR cS cT cU cV cW cX cY cZ dA dB dC dD dE dF dG dH dI dJ dK dL dM dN dO dP dQ dR dS dT dU dV dW dX dY dZ eA eB eC eD eE eF eG eH eI eJ eK eL eM eN eO eP eQ eR eS eT eU eV eW eX eY eZ fA fB fC fD fE fF fG fH fI fJ fK fL fM fN fO fP fQ fR fS fT fU fV fW fX fY fZ gA gB gC gD gE gF gG gH gI gJ gK gL gM gN gO gP gQ gR gS gT gU gV gW gX gY gZ hA hB hC hD hE hF hG hH hI hJ hK hL : V),wp G r94_3 (x0::x1::x2::x3::x4::x5::x6::x7::x8::x9::aA::aB::aC::aD::aE::aF::aG::aH::aI::aJ::aK::aL::aM::aN::aO::aP::aQ::aR::aS::aT::aU::aV::aW::aX::aY::aZ::cA::cB::cC::cD::cE::cF::cG::cH::cI::cJ::cK::cL::cM::cN::cO::cP::cQ::cR::cS::cT::cU::cV::cW::cX::cY::cZ::dA::dB::dC::dD::dE::dF::dG::dH::dI::dJ::dK::dL::dM::dN::dO::dP::dQ::dR::dS::dT::dU::dV::dW::dX::dY::dZ::eA::eB::eC::eD::eE::eF::eG::eH::eI::eJ::eK::eL::eM::eN::eO::eP::eQ::eR::eS::eT::eU::eV::eW::eX::eY::eZ::fA::fB::fC::fD::fE::fF::fG::fH::fI::fJ::fK::fL::fM::fN::fO::fP::fQ::fR::fS::fT::fU::fV::fW::fX::fY::fZ::gA::gB::gC::gD::gE::gF::gG::gH::gI::gJ::gK::gL::gM::gN::gO::gP::gQ::gR::gS::gT::gU::gV::gW::gX::gY::gZ::hA::hB::hC::hD::hE::hF::hG::hH::hI::hJ::hK::hL::[]) H Q
theorem wb94_4 : wp G b94_4 (z) H Q = (
  Lp G b94_5 (z) H (blockQ 6 (seqQ G r94_6 (blockQ 5 Q)))) := by kernel_rfl
def Sb94_4 (I : Nat → V → V → V → V → V → Heap → Prop) : Nat → List V → Heap → Prop := fun i ts H => ts.length = 178 ∧ I i (ts.getD 0 undefV) (ts.getD 1 undefV) (ts.getD 4 undefV) (ts.getD 12 undefV) (ts.getD 13 undefV) H
@[simp] theorem Sb94_4_eq {I : Nat → V → V → V → V → V → Heap → Prop} {i : Nat} : Sb94_4 I i (x0::x1::x2::x3::x4::x5::x6::x7::x8::x9::aA::aB::aC::aD::aE::aF::aG::aH::aI::aJ::aK::aL::aM::aN::aO::aP::aQ::aR::aS::aT::aU::aV::aW::aX::aY::aZ::cA::cB::cC::cD::cE::cF::cG::cH::cI::cJ::cK::cL::cM::cN::cO::cP::cQ::cR::cS::cT::cU::cV::cW::cX::cY::cZ::dA::dB::dC::dD::dE::dF::dG::dH::dI::dJ::dK::dL::dM::dN::dO::dP::dQ::dR::dS::dT::dU::dV::dW::dX::dY::dZ::eA::eB::eC::eD::eE::eF::eG::eH::eI::eJ::eK::eL::eM::eN::eO::eP::eQ::eR::eS::eT::eU::eV::eW::eX::eY::eZ::fA::fB::fC::fD::fE::fF::fG::fH::fI::fJ::fK::fL::fM::fN::fO::fP::fQ::fR::fS::fT::fU::fV::fW::fX::fY::fZ::gA::gB::gC::gD::gE::gF::gG::gH::gI::gJ::gK::gL::gM::gN::gO::gP::gQ::gR::gS::gT::gU::gV::gW::gX::gY::gZ::hA::hB::hC::hD::hE::hF::hG::hH::hI::hJ::hK::hL::[]) H = I i x0 x1 x4 aC aD H := propext ⟨fun h => h.2,fun h => ⟨rfl,h⟩⟩
def Lb94_4 (x0 x1 x4 aC aD : V) (H : Heap) (Q : Cont) : Prop := ∀ (x2 x3 x5 x6 x7 x8 x9 aA aB aE aF aG aH aI aJ aK aL aM aN aO aP aQ aR aS aT aU aV aW aX aY aZ cA cB cC cD cE cF cG cH cI cJ cK cL cM cN cO cP cQ cR cS cT cU cV cW cX cY cZ dA dB dC dD dE dF dG dH dI dJ dK dL dM dN dO dP dQ dR dS dT dU dV dW dX dY dZ eA eB eC eD eE eF eG eH eI eJ eK eL eM eN eO eP eQ eR eS eT eU eV eW eX eY eZ fA fB fC fD fE fF fG fH fI fJ fK fL fM fN fO fP fQ fR fS fT fU fV fW fX fY fZ gA gB gC gD gE gF gG gH gI gJ gK gL gM gN gO gP gQ gR gS gT gU gV gW gX gY gZ hA hB hC hD hE hF hG hH hI hJ hK hL : V),Lp G b94_4 (x0::x1::x2::x3::x4::x5::x6::x7::x8::x9::aA::aB::aC::aD::aE::aF::aG::aH::aI::aJ::aK::aL::aM::aN::aO::aP::aQ::aR::aS::aT::aU::aV::aW::aX::aY::aZ::cA::cB::cC::cD::cE::cF::cG::cH::cI::cJ::cK::cL::cM::cN::cO::cP::cQ::cR::cS::cT::cU::cV::cW::cX::cY::cZ::dA::dB::dC::dD::dE::dF::dG::dH::dI::dJ::dK::dL::dM::dN::dO::dP::dQ::dR::dS::dT::dU::dV::dW::dX::dY::dZ::eA::eB::eC::eD::eE::eF::eG::eH::eI::eJ::eK::eL::eM::eN::eO::eP::eQ::eR::eS::eT::eU::eV::eW::eX::eY::eZ::fA::fB::fC::fD::fE::fF::fG::fH::fI::fJ::fK::fL::fM::fN::fO::fP::fQ::fR::fS::fT::fU::fV::fW::fX::fY::fZ::gA::gB::gC::gD::gE::gF::gG::gH::gI::gJ::gK::gL::gM::gN::gO::gP::gQ::gR::gS::gT::gU::gV::gW::gX::gY::gZ::hA::hB::hC::hD::hE::hF::hG::hH::hI::hJ::hK::hL::[]) H Q
theorem ub94_4 (M : Nat) (I : Nat → V → V → V → V → V → Heap → Prop) (step : ∀ i,i ≤ M → ∀ (x0 x1 x4 aC aD : V) (H : Heap),I i x0 x1 x4 aC aD H → ∀ (x2 x3 x5 x6 x7 x8 x9 aA aB aE aF aG aH aI aJ aK aL aM aN aO aP aQ aR aS aT aU aV aW aX aY aZ cA cB cC cD cE cF cG cH cI cJ cK cL cM cN cO cP cQ cR cS cT cU cV cW cX cY cZ dA dB dC dD dE dF dG dH dI dJ dK dL dM dN dO dP dQ dR dS dT dU dV dW dX dY dZ eA eB eC eD eE eF eG eH eI eJ eK eL eM eN eO eP eQ eR eS eT eU eV eW eX eY eZ fA fB fC fD fE fF fG fH fI fJ fK fL fM fN fO fP fQ fR fS fT fU fV fW fX fY fZ gA gB gC gD gE gF gG gH gI gJ gK gL gM gN gO gP gQ gR gS gT gU gV gW gX gY gZ hA hB hC hD hE hF hG hH hI hJ hK hL : V),wp G b94_4 (x0::x1::x2::x3::x4::x5::x6::x7::x8::x9::aA::aB::aC::aD::aE::aF::aG::aH::aI::aJ::aK::aL::aM::aN::aO::aP::aQ::aR::aS::aT::aU::aV::aW::aX::aY::aZ::cA::cB::cC::cD::cE::cF::cG::cH::cI::cJ::cK::cL::cM::cN::cO::cP::cQ::cR::cS::cT::cU::cV::cW::cX::cY::cZ::dA::dB::dC::dD::dE::dF::dG::dH::dI::dJ::dK::dL::dM::dN::dO::dP::dQ::dR::dS::dT::dU::dV::dW::dX::dY::dZ::eA::eB::eC::eD::eE::eF::eG::eH::eI::eJ::eK::eL::eM::eN::eO::eP::eQ::eR::eS::eT::eU::eV::eW::eX::eY::eZ::fA::fB::fC::fD::fE::fF::fG::fH::fI::fJ::fK::fL::fM::fN::fO::fP::fQ::fR::fS::fT::fU::fV::fW::fX::fY::fZ::gA::gB::gC::gD::gE::gF::gG::gH::gI::gJ::gK::gL::gM::gN::gO::gP::gQ::gR::gS::gT::gU::gV::gW::gX::gY::gZ::hA::hB::hC::hD::hE::hF::hG::hH::hI::hJ::hK::hL::[]) H (upQ M (Sb94_4 I) i Q)) (i : Nat) (hi : i ≤ M) (h : I i x0 x1 x4 aC aD H) : Lp G b94_4 (x0::x1::x2::x3::x4::x5::x6::x7::x8::x9::aA::aB::aC::aD::aE::aF::aG::aH::aI::aJ::aK::aL::aM::aN::aO::aP::aQ::aR::aS::aT::aU::aV::aW::aX::aY::aZ::cA::cB::cC::cD::cE::cF::cG::cH::cI::cJ::cK::cL::cM::cN::cO::cP::cQ::cR::cS::cT::cU::cV::cW::cX::cY::cZ::dA::dB::dC::dD::dE::dF::dG::dH::dI::dJ::dK::dL::dM::dN::dO::dP::dQ::dR::dS::dT::dU::dV::dW::dX::dY::dZ::eA::eB::eC::eD::eE::eF::eG::eH::eI::eJ::eK::eL::eM::eN::eO::eP::eQ::eR::eS::eT::eU::eV::eW::eX::eY::eZ::fA::fB::fC::fD::fE::fF::fG::fH::fI::fJ::fK::fL::fM::fN::fO::fP::fQ::fR::fS::fT::fU::fV::fW::fX::fY::fZ::gA::gB::gC::gD::gE::gF::gG::gH::gI::gJ::gK::gL::gM::gN::gO::gP::gQ::gR::gS::gT::gU::gV::gW::gX::gY::gZ::hA::hB::hC::hD::hE::hF::hG::hH::hI::hJ::hK::hL::[]) H Q :=
  Lp.up (S := Sb94_4 I) (fun i t H hi hS => (congrArg (fun t => wp G b94_4 t H (upQ M (Sb94_4 I) i Q)) (tabF_eq hS.1)).mpr (step i hi _ _ _ _ _ H hS.2 ..)) _ i _ H rfl hi ⟨rfl,h⟩
theorem wb94_5 : wp G b94_5 (x0::x1::x2::x3::x4::x5::x6::x7::x8::x9::aA::aB::aC::aD::aE::aF::aG::aH::aI::aJ::aK::aL::aM::aN::aO::aP::aQ::aR::aS::aT::aU::aV::aW::aX::aY::aZ::cA::cB::cC::cD::cE::cF::cG::cH::cI::cJ::cK::cL::cM::cN::cO::cP::cQ::cR::cS::cT::cU::cV::cW::cX::cY::cZ::dA::dB::dC::dD::dE::dF::dG::dH::dI::dJ::dK::dL::dM::dN::dO::dP::dQ::dR::dS::dT::dU::dV::dW::dX::dY::dZ::eA::eB::eC::eD::eE::eF::eG::eH::eI::eJ::eK::eL::eM::eN::eO::eP::eQ::eR::eS::eT::eU::eV::eW::eX::eY::eZ::fA::fB::fC::fD::fE::fF::fG::fH::fI::z) H Q = (
  bd (binV .leq aC aD) fun p0=>
  wpg (gdV p0 true) H (fun k => k x4 H) fun p1 p2=>
  wpg (gdV p0 true) p2 (fun k => k x0 p2) fun p3 p4=>
  wpg (gdV p0 true) p4 (fun k => k aC p4) fun p5 p6=>
  wpg (gdV p0 true) p6 (fun k => bd (iadrV 2 p3 p5) fun p7 => k p7 p6) fun p8 p9=>
  wpg (gdV p0 true) p9 (fun k => bd (ldV p9 p8 2 true) fun pA => k pA p9) fun pB pC=>
  wpg (gdV p0 true) pC (fun k => k x0 pC) fun pD pE=>
  wpg (gdV p0 true) pE (fun k => k x1 pE) fun pF pG=>
  wpg (gdV p0 true) pG (fun k => bd (iadrV 2 pD pF) fun pH => k pH pG) fun pI pJ=>
  wpg (gdV p0 true) pJ (fun k => bd (ldV pJ pI 2 true) fun pK => k pK pJ) fun pL pM=>
  wpg (gdV p0 true) pM (fun k => bd (callV p1) fun c => (true || G.pur c.1) = true ∧ Cl G c.1 ([pB,pL] ++ c.2) pM fun pN pO => k pN pO) fun pP pQ=>
  wpg (gdV p0 true) pQ (fun k => bd (binV .lss pP (.int .i64 0)) fun pR => k pR pQ) fun pS pT=>
  bd (pickV p0 pS (.bool false)) fun pU=>
  ifB pU
   (bd (binV .add aC (.int .i64 1)) fun pV=>
   Q .n (x0::x1::x2::x3::x4::x5::x6::x7::x8::x9::aA::aB::pV::aD::aE::aF::aG::aH::aI::aJ::aK::aL::aM::aN::aO::aP::aQ::aR::aS::aT::aU::aV::aW::aX::aY::aZ::cA::cB::cC::cD::cE::cF::cG::cH::cI::cJ::cK::cL::cM::cN::cO::cP::cQ::cR::cS::cT::cU::cV::cW::cX::cY::cZ::dA::dB::dC::dD::dE::dF::dG::dH::dI::dJ::dK::dL::dM::dN::dO::dP::dQ::dR::dS::dT::dU::dV::dW::dX::dY::dZ::eA::eB::eC::eD::eE::eF::eG::eH::eI::eJ::eK::eL::eM::eN::eO::eP::eQ::aC::aD::p0::p0::p1::p3::p5::p8::pB::pD::pF::pI::pL::pP::pS::pU::aC::pV::z) pT)
   (Q (.e 6) (x0::x1::x2::x3::x4::x5::x6::x7::x8::x9::aA::aB::aC::aD::aE::aF::aG::aH::aI::aJ::aK::aL::aM::aN::aO::aP::aQ::aR::aS::aT::aU::aV::aW::aX::aY::aZ::cA::cB::cC::cD::cE::cF::cG::cH::cI::cJ::cK::cL::cM::cN::cO::cP::cQ::cR::cS::cT::cU::cV::cW::cX::cY::cZ::dA::dB::dC::dD::dE::dF::dG::dH::dI::dJ::dK::dL::dM::dN::dO::dP::dQ::dR::dS::dT::dU::dV::dW::dX::dY::dZ::eA::eB::eC::eD::eE::eF::eG::eH::eI::eJ::eK::eL::eM::eN::eO::eP::eQ::aC::aD::p0::p0::p1::p3::p5::p8::pB::pD::pF::pI::pL::pP::pS::pU::fH::fI::z) pT)) := by kernel_rfl
def Sb94_5 (I : Nat → V → V → V → V → V → Heap → Prop) : Nat → List V → Heap → Prop := fun i ts H => ts.length = 178 ∧ I i (ts.getD 0 undefV) (ts.getD 1 undefV) (ts.getD 4 undefV) (ts.getD 12 undefV) (ts.getD 13 undefV) H
@[simp] theorem Sb94_5_eq {I : Nat → V → V → V → V → V → Heap → Prop} {i : Nat} : Sb94_5 I i (x0::x1::x2::x3::x4::x5::x6::x7::x8::x9::aA::aB::aC::aD::aE::aF::aG::aH::aI::aJ::aK::aL::aM::aN::aO::aP::aQ::aR::aS::aT::aU::aV::aW::aX::aY::aZ::cA::cB::cC::cD::cE::cF::cG::cH::cI::cJ::cK::cL::cM::cN::cO::cP::cQ::cR::cS::cT::cU::cV::cW::cX::cY::cZ::dA::dB::dC::dD::dE::dF::dG::dH::dI::dJ::dK::dL::dM::dN::dO::dP::dQ::dR::dS::dT::dU::dV::dW::dX::dY::dZ::eA::eB::eC::eD::eE::eF::eG::eH::eI::eJ::eK::eL::eM::eN::eO::eP::eQ::eR::eS::eT::eU::eV::eW::eX::eY::eZ::fA::fB::fC::fD::fE::fF::fG::fH::fI::fJ::fK::fL::fM::fN::fO::fP::fQ::fR::fS::fT::fU::fV::fW::fX::fY::fZ::gA::gB::gC::gD::gE::gF::gG::gH::gI::gJ::gK::gL::gM::gN::gO::gP::gQ::gR::gS::gT::gU::gV::gW::gX::gY::gZ::hA::hB::hC::hD::hE::hF::hG::hH::hI::hJ::hK::hL::[]) H = I i x0 x1 x4 aC aD H := propext ⟨fun h => h.2,fun h => ⟨rfl,h⟩⟩
theorem ub94_5 (M : Nat) (I : Nat → V → V → V → V → V → Heap → Prop) (step : ∀ i,i ≤ M → ∀ (x0 x1 x4 aC aD : V) (H : Heap),I i x0 x1 x4 aC aD H → ∀ (x2 x3 x5 x6 x7 x8 x9 aA aB aE aF aG aH aI aJ aK aL aM aN aO aP aQ aR aS aT aU aV aW aX aY aZ cA cB cC cD cE cF cG cH cI cJ cK cL cM cN cO cP cQ cR cS cT cU cV cW cX cY cZ dA dB dC dD dE dF dG dH dI dJ dK dL dM dN dO dP dQ dR dS dT dU dV dW dX dY dZ eA eB eC eD eE eF eG eH eI eJ eK eL eM eN eO eP eQ eR eS eT eU eV eW eX eY eZ fA fB fC fD fE fF fG fH fI fJ fK fL fM fN fO fP fQ fR fS fT fU fV fW fX fY fZ gA gB gC gD gE gF gG gH gI gJ gK gL gM gN gO gP gQ gR gS gT gU gV gW gX gY gZ hA hB hC hD hE hF hG hH hI hJ hK hL : V),wp G b94_5 (x0::x1::x2::x3::x4::x5::x6::x7::x8::x9::aA::aB::aC::aD::aE::aF::aG::aH::aI::aJ::aK::aL::aM::aN::aO::aP::aQ::aR::aS::aT::aU::aV::aW::aX::aY::aZ::cA::cB::cC::cD::cE::cF::cG::cH::cI::cJ::cK::cL::cM::cN::cO::cP::cQ::cR::cS::cT::cU::cV::cW::cX::cY::cZ::dA::dB::dC::dD::dE::dF::dG::dH::dI::dJ::dK::dL::dM::dN::dO::dP::dQ::dR::dS::dT::dU::dV::dW::dX::dY::dZ::eA::eB::eC::eD::eE::eF::eG::eH::eI::eJ::eK::eL::eM::eN::eO::eP::eQ::eR::eS::eT::eU::eV::eW::eX::eY::eZ::fA::fB::fC::fD::fE::fF::fG::fH::fI::fJ::fK::fL::fM::fN::fO::fP::fQ::fR::fS::fT::fU::fV::fW::fX::fY::fZ::gA::gB::gC::gD::gE::gF::gG::gH::gI::gJ::gK::gL::gM::gN::gO::gP::gQ::gR::gS::gT::gU::gV::gW::gX::gY::gZ::hA::hB::hC::hD::hE::hF::hG::hH::hI::hJ::hK::hL::[]) H (upQ M (Sb94_5 I) i Q)) (i : Nat) (hi : i ≤ M) (h : I i x0 x1 x4 aC aD H) : Lp G b94_5 (x0::x1::x2::x3::x4::x5::x6::x7::x8::x9::aA::aB::aC::aD::aE::aF::aG::aH::aI::aJ::aK::aL::aM::aN::aO::aP::aQ::aR::aS::aT::aU::aV::aW::aX::aY::aZ::cA::cB::cC::cD::cE::cF::cG::cH::cI::cJ::cK::cL::cM::cN::cO::cP::cQ::cR::cS::cT::cU::cV::cW::cX::cY::cZ::dA::dB::dC::dD::dE::dF::dG::dH::dI::dJ::dK::dL::dM::dN::dO::dP::dQ::dR::dS::dT::dU::dV::dW::dX::dY::dZ::eA::eB::eC::eD::eE::eF::eG::eH::eI::eJ::eK::eL::eM::eN::eO::eP::eQ::eR::eS::eT::eU::eV::eW::eX::eY::eZ::fA::fB::fC::fD::fE::fF::fG::fH::fI::fJ::fK::fL::fM::fN::fO::fP::fQ::fR::fS::fT::fU::fV::fW::fX::fY::fZ::gA::gB::gC::gD::gE::gF::gG::gH::gI::gJ::gK::gL::gM::gN::gO::gP::gQ::gR::gS::gT::gU::gV::gW::gX::gY::gZ::hA::hB::hC::hD::hE::hF::hG::hH::hI::hJ::hK::hL::[]) H Q :=
  Lp.up (S := Sb94_5 I) (fun i t H hi hS => (congrArg (fun t => wp G b94_5 t H (upQ M (Sb94_5 I) i Q)) (tabF_eq hS.1)).mpr (step i hi _ _ _ _ _ H hS.2 ..)) _ i _ H rfl hi ⟨rfl,h⟩
theorem wr94_6 : wp G r94_6 (z) H Q = (
  Lp G b94_7 (z) H (blockQ 8 (seqQ G r94_8 Q))) := by kernel_rfl
def Wr94_6 (x0 x1 x4 aC aD : V) (H : Heap) (Q : Cont) : Prop := ∀ (x2 x3 x5 x6 x7 x8 x9 aA aB aE aF aG aH aI aJ aK aL aM aN aO aP aQ aR aS aT aU aV aW aX aY aZ cA cB cC cD cE cF cG cH cI cJ cK cL cM cN cO cP cQ cR cS cT cU cV cW cX cY cZ dA dB dC dD dE dF dG dH dI dJ dK dL dM dN dO dP dQ dR dS dT dU dV dW dX dY dZ eA eB eC eD eE eF eG eH eI eJ eK eL eM eN eO eP eQ eR eS eT eU eV eW eX eY eZ fA fB fC fD fE fF fG fH fI fJ fK fL fM fN fO fP fQ fR fS fT fU fV fW fX fY fZ gA gB gC gD gE gF gG gH gI gJ gK gL gM gN gO gP gQ gR gS gT gU gV gW gX gY gZ hA hB hC hD hE hF hG hH hI hJ hK hL : V),wp G r94_6 (x0::x1::x2::x3::x4::x5::x6::x7::x8::x9::aA::aB::aC::aD::aE::aF::aG::aH::aI::aJ::aK::aL::aM::aN::aO::aP::aQ::aR::aS::aT::aU::aV::aW::aX::aY::aZ::cA::cB::cC::cD::cE::cF::cG::cH::cI::cJ::cK::cL::cM::cN::cO::cP::cQ::cR::cS::cT::cU::cV::cW::cX::cY::cZ::dA::dB::dC::dD::dE::dF::dG::dH::dI::dJ::dK::dL::dM::dN::dO::dP::dQ::dR::dS::dT::dU::dV::dW::dX::dY::dZ::eA::eB::eC::eD::eE::eF::eG::eH::eI::eJ::eK::eL::eM::eN::eO::eP::eQ::eR::eS::eT::eU::eV::eW::eX::eY::eZ::fA::fB::fC::fD::fE::fF::fG::fH::fI::fJ::fK::fL::fM::fN::fO::fP::fQ::fR::fS::fT::fU::fV::fW::fX::fY::fZ::gA::gB::gC::gD::gE::gF::gG::gH::gI::gJ::gK::gL::gM::gN::gO::gP::gQ::gR::gS::gT::gU::gV::gW::gX::gY::gZ::hA::hB::hC::hD::hE::hF::hG::hH::hI::hJ::hK::hL::[]) H Q
theorem wb94_7 : wp G b94_7 (x0::x1::x2::x3::x4::x5::x6::x7::x8::x9::aA::aB::aC::aD::aE::aF::aG::aH::aI::aJ::aK::aL::aM::aN::aO::aP::aQ::aR::aS::aT::aU::aV::aW::aX::aY::aZ::cA::cB::cC::cD::cE::cF::cG::cH::cI::cJ::cK::cL::cM::cN::cO::cP::cQ::cR::cS::cT::cU::cV::cW::cX::cY::cZ::dA::dB::dC::dD::dE::dF::dG::dH::dI::dJ::dK::dL::dM::dN::dO::dP::dQ::dR::dS::dT::dU::dV::dW::dX::dY::dZ::eA::eB::eC::eD::eE::eF::eG::eH::eI::eJ::eK::eL::eM::eN::eO::eP::eQ::eR::eS::eT::eU::eV::eW::eX::eY::eZ::fA::fB::fC::fD::fE::fF::fG::fH::fI::fJ::fK::fL::fM::fN::fO::fP::fQ::fR::fS::fT::fU::fV::fW::fX::fY::fZ::gA::gB::z) H Q = (
  bd (binV .leq aC aD) fun p0=>
  wpg (gdV p0 true) H (fun k => k x4 H) fun p1 p2=>
  wpg (gdV p0 true) p2 (fun k => k x0 p2) fun p3 p4=>
  wpg (gdV p0 true) p4 (fun k => k aD p4) fun p5 p6=>
  wpg (gdV p0 true) p6 (fun k => bd (iadrV 2 p3 p5) fun p7 => k p7 p6) fun p8 p9=>
  wpg (gdV p0 true) p9 (fun k => bd (ldV p9 p8 2 true) fun pA => k pA p9) fun pB pC=>
  wpg (gdV p0 true) pC (fun k => k x0 pC) fun pD pE=>
  wpg (gdV p0 true) pE (fun k => k x1 pE) fun pF pG=>
  wpg (gdV p0 true) pG (fun k => bd (iadrV 2 pD pF) fun pH => k pH pG) fun pI pJ=>
  wpg (gdV p0 true) pJ (fun k => bd (ldV pJ pI 2 true) fun pK => k pK pJ) fun pL pM=>
  wpg (gdV p0 true) pM (fun k => bd (callV p1) fun c => (true || G.pur c.1) = true ∧ Cl G c.1 ([pB,pL] ++ c.2) pM fun pN pO => k pN pO) fun pP pQ=>
  wpg (gdV p0 true) pQ (fun k => bd (binV .lss pP (.int .i64 0)) fun pR => k pR pQ) fun pS pT=>
  wpg (gdV p0 true) pT (fun k => bd (unV .not pS) fun pU => k pU pT) fun pV pW=>
  bd (pickV p0 pV (.bool false)) fun pX=>
  ifB pX
   (bd (binV .sub aD (.int .i64 1)) fun pY=>
   Q .n (x0::x1::x2::x3::x4::x5::x6::x7::x8::x9::aA::aB::aC::pY::aE::aF::aG::aH::aI::aJ::aK::aL::aM::aN::aO::aP::aQ::aR::aS::aT::aU::aV::aW::aX::aY::aZ::cA::cB::cC::cD::cE::cF::cG::cH::cI::cJ::cK::cL::cM::cN::cO::cP::cQ::cR::cS::cT::cU::cV::cW::cX::cY::cZ::dA::dB::dC::dD::dE::dF::dG::dH::dI::dJ::dK::dL::dM::dN::dO::dP::dQ::dR::dS::dT::dU::dV::dW::dX::dY::dZ::eA::eB::eC::eD::eE::eF::eG::eH::eI::eJ::eK::eL::eM::eN::eO::eP::eQ::eR::eS::eT::eU::eV::eW::eX::eY::eZ::fA::fB::fC::fD::fE::fF::fG::fH::fI::aC::aD::p0::p0::p1::p3::p5::p8::pB::pD::pF::pI::pL::pP::pS::pV::pX::aD::pY::z) pW)
   (Q (.e 8) (x0::x1::x2::x3::x4::x5::x6::x7::x8::x9::aA::aB::aC::aD::aE::aF::aG::aH::aI::aJ::aK::aL::aM::aN::aO::aP::aQ::aR::aS::aT::aU::aV::aW::aX::aY::aZ::cA::cB::cC::cD::cE::cF::cG::cH::cI::cJ::cK::cL::cM::cN::cO::cP::cQ::cR::cS::cT::cU::cV::cW::cX::cY::cZ::dA::dB::dC::dD::dE::dF::dG::dH::dI::dJ::dK::dL::dM::dN::dO::dP::dQ::dR::dS::dT::dU::dV::dW::dX::dY::dZ::eA::eB::eC::eD::eE::eF::eG::eH::eI::eJ::eK::eL::eM::eN::eO::eP::eQ::eR::eS::eT::eU::eV::eW::eX::eY::eZ::fA::fB::fC::fD::fE::fF::fG::fH::fI::aC::aD::p0::p0::p1::p3::p5::p8::pB::pD::pF::pI::pL::pP::pS::pV::pX::gA::gB::z) pW)) := by kernel_rfl
def Sb94_7 (I : Nat → V → V → V → V → V → Heap → Prop) : Nat → List V → Heap → Prop := fun i ts H => ts.length = 178 ∧ I i (ts.getD 0 undefV) (ts.getD 1 undefV) (ts.getD 4 undefV) (ts.getD 12 undefV) (ts.getD 13 undefV) H
@[simp] theorem Sb94_7_eq {I : Nat → V → V → V → V → V → Heap → Prop} {i : Nat} : Sb94_7 I i (x0::x1::x2::x3::x4::x5::x6::x7::x8::x9::aA::aB::aC::aD::aE::aF::aG::aH::aI::aJ::aK::aL::aM::aN::aO::aP::aQ::aR::aS::aT::aU::aV::aW::aX::aY::aZ::cA::cB::cC::cD::cE::cF::cG::cH::cI::cJ::cK::cL::cM::cN::cO::cP::cQ::cR::cS::cT::cU::cV::cW::cX::cY::cZ::dA::dB::dC::dD::dE::dF::dG::dH::dI::dJ::dK::dL::dM::dN::dO::dP::dQ::dR::dS::dT::dU::dV::dW::dX::dY::dZ::eA::eB::eC::eD::eE::eF::eG::eH::eI::eJ::eK::eL::eM::eN::eO::eP::eQ::eR::eS::eT::eU::eV::eW::eX::eY::eZ::fA::fB::fC::fD::fE::fF::fG::fH::fI::fJ::fK::fL::fM::fN::fO::fP::fQ::fR::fS::fT::fU::fV::fW::fX::fY::fZ::gA::gB::gC::gD::gE::gF::gG::gH::gI::gJ::gK::gL::gM::gN::gO::gP::gQ::gR::gS::gT::gU::gV::gW::gX::gY::gZ::hA::hB::hC::hD::hE::hF::hG::hH::hI::hJ::hK::hL::[]) H = I i x0 x1 x4 aC aD H := propext ⟨fun h => h.2,fun h => ⟨rfl,h⟩⟩
theorem ub94_7 (M : Nat) (I : Nat → V → V → V → V → V → Heap → Prop) (step : ∀ i,i ≤ M → ∀ (x0 x1 x4 aC aD : V) (H : Heap),I i x0 x1 x4 aC aD H → ∀ (x2 x3 x5 x6 x7 x8 x9 aA aB aE aF aG aH aI aJ aK aL aM aN aO aP aQ aR aS aT aU aV aW aX aY aZ cA cB cC cD cE cF cG cH cI cJ cK cL cM cN cO cP cQ cR cS cT cU cV cW cX cY cZ dA dB dC dD dE dF dG dH dI dJ dK dL dM dN dO dP dQ dR dS dT dU dV dW dX dY dZ eA eB eC eD eE eF eG eH eI eJ eK eL eM eN eO eP eQ eR eS eT eU eV eW eX eY eZ fA fB fC fD fE fF fG fH fI fJ fK fL fM fN fO fP fQ fR fS fT fU fV fW fX fY fZ gA gB gC gD gE gF gG gH gI gJ gK gL gM gN gO gP gQ gR gS gT gU gV gW gX gY gZ hA hB hC hD hE hF hG hH hI hJ hK hL : V),wp G b94_7 (x0::x1::x2::x3::x4::x5::x6::x7::x8::x9::aA::aB::aC::aD::aE::aF::aG::aH::aI::aJ::aK::aL::aM::aN::aO::aP::aQ::aR::aS::aT::aU::aV::aW::aX::aY::aZ::cA::cB::cC::cD::cE::cF::cG::cH::cI::cJ::cK::cL::cM::cN::cO::cP::cQ::cR::cS::cT::cU::cV::cW::cX::cY::cZ::dA::dB::dC::dD::dE::dF::dG::dH::dI::dJ::dK::dL::dM::dN::dO::dP::dQ::dR::dS::dT::dU::dV::dW::dX::dY::dZ::eA::eB::eC::eD::eE::eF::eG::eH::eI::eJ::eK::eL::eM::eN::eO::eP::eQ::eR::eS::eT::eU::eV::eW::eX::eY::eZ::fA::fB::fC::fD::fE::fF::fG::fH::fI::fJ::fK::fL::fM::fN::fO::fP::fQ::fR::fS::fT::fU::fV::fW::fX::fY::fZ::gA::gB::gC::gD::gE::gF::gG::gH::gI::gJ::gK::gL::gM::gN::gO::gP::gQ::gR::gS::gT::gU::gV::gW::gX::gY::gZ::hA::hB::hC::hD::hE::hF::hG::hH::hI::hJ::hK::hL::[]) H (upQ M (Sb94_7 I) i Q)) (i : Nat) (hi : i ≤ M) (h : I i x0 x1 x4 aC aD H) : Lp G b94_7 (x0::x1::x2::x3::x4::x5::x6::x7::x8::x9::aA::aB::aC::aD::aE::aF::aG::aH::aI::aJ::aK::aL::aM::aN::aO::aP::aQ::aR::aS::aT::aU::aV::aW::aX::aY::aZ::cA::cB::cC::cD::cE::cF::cG::cH::cI::cJ::cK::cL::cM::cN::cO::cP::cQ::cR::cS::cT::cU::cV::cW::cX::cY::cZ::dA::dB::dC::dD::dE::dF::dG::dH::dI::dJ::dK::dL::dM::dN::dO::dP::dQ::dR::dS::dT::dU::dV::dW::dX::dY::dZ::eA::eB::eC::eD::eE::eF::eG::eH::eI::eJ::eK::eL::eM::eN::eO::eP::eQ::eR::eS::eT::eU::eV::eW::eX::eY::eZ::fA::fB::fC::fD::fE::fF::fG::fH::fI::fJ::fK::fL::fM::fN::fO::fP::fQ::fR::fS::fT::fU::fV::fW::fX::fY::fZ::gA::gB::gC::gD::gE::gF::gG::gH::gI::gJ::gK::gL::gM::gN::gO::gP::gQ::gR::gS::gT::gU::gV::gW::gX::gY::gZ::hA::hB::hC::hD::hE::hF::hG::hH::hI::hJ::hK::hL::[]) H Q :=
  Lp.up (S := Sb94_7 I) (fun i t H hi hS => (congrArg (fun t => wp G b94_7 t H (upQ M (Sb94_7 I) i Q)) (tabF_eq hS.1)).mpr (step i hi _ _ _ _ _ H hS.2 ..)) _ i _ H rfl hi ⟨rfl,h⟩
theorem wr94_8 : wp G r94_8 (x0::x1::x2::x3::x4::x5::x6::x7::x8::x9::aA::aB::aC::aD::aE::aF::aG::aH::aI::aJ::aK::aL::aM::aN::aO::aP::aQ::aR::aS::aT::aU::aV::aW::aX::aY::aZ::cA::cB::cC::cD::cE::cF::cG::cH::cI::cJ::cK::cL::cM::cN::cO::cP::cQ::cR::cS::cT::cU::cV::cW::cX::cY::cZ::dA::dB::dC::dD::dE::dF::dG::dH::dI::dJ::dK::dL::dM::dN::dO::dP::dQ::dR::dS::dT::dU::dV::dW::dX::dY::dZ::eA::eB::eC::eD::eE::eF::eG::eH::eI::eJ::eK::eL::eM::eN::eO::eP::eQ::eR::eS::eT::eU::eV::eW::eX::eY::eZ::fA::fB::fC::fD::fE::fF::fG::fH::fI::fJ::fK::fL::fM::fN::fO::fP::fQ::fR::fS::fT::fU::fV::fW::fX::fY::fZ::gA::gB::gC::gD::gE::gF::gG::gH::gI::gJ::gK::gL::gM::gN::gO::gP::gQ::gR::gS::gT::gU::gV::gW::z) H Q = (
  bd (binV .gtr aC aD) fun p0=>
  ifB p0
   (Q (.e 4) (x0::x1::x2::x3::x4::x5::x6::x7::x8::x9::aA::aB::aC::aD::aE::aF::aG::aH::aI::aJ::aK::aL::aM::aN::aO::aP::aQ::aR::aS::aT::aU::aV::aW::aX::aY::aZ::cA::cB::cC::cD::cE::cF::cG::cH::cI::cJ::cK::cL::cM::cN::cO::cP::cQ::cR::cS::cT::cU::cV::cW::cX::cY::cZ::dA::dB::dC::dD::dE::dF::dG::dH::dI::dJ::dK::dL::dM::dN::dO::dP::dQ::dR::dS::dT::dU::dV::dW::dX::dY::dZ::eA::eB::eC::eD::eE::eF::eG::eH::eI::eJ::eK::eL::eM::eN::eO::eP::eQ::eR::eS::eT::eU::eV::eW::eX::eY::eZ::fA::fB::fC::fD::fE::fF::fG::fH::fI::fJ::fK::fL::fM::fN::fO::fP::fQ::fR::fS::fT::fU::fV::fW::fX::fY::fZ::gA::gB::aC::aD::p0::gF::gG::gH::gI::gJ::gK::gL::gM::gN::gO::gP::gQ::gR::gS::gT::gU::gV::gW::z) H)
   (bd (iadrV 2 x0 aD) fun p1=>
   bd (ldV H p1 2 true) fun p2=>
   bd (iadrV 2 x0 aC) fun p3=>
   bd (ldV H p3 2 true) fun p4=>
   bd (iadrV 2 x0 aC) fun p5=>
   true = true ∧ bd (stV H 2 p5 p2) fun p6=>
   bd (iadrV 2 x0 aD) fun p7=>
   true = true ∧ bd (stV p6 2 p7 p4) fun p8=>
   bd (binV .add aC (.int .i64 1)) fun p9=>
   bd (binV .sub aD (.int .i64 1)) fun pA=>
   Q .n (x0::x1::x2::x3::x4::x5::x6::x7::x8::x9::aA::aB::p9::pA::aE::aF::aG::aH::aI::aJ::aK::aL::aM::aN::aO::aP::aQ::aR::aS::aT::aU::aV::aW::aX::aY::aZ::cA::cB::cC::cD::cE::cF::cG::cH::cI::cJ::cK::cL::cM::cN::cO::cP::cQ::cR::cS::cT::cU::cV::cW::cX::cY::cZ::dA::dB::dC::dD::dE::dF::dG::dH::dI::dJ::dK::dL::dM::dN::dO::dP::dQ::dR::dS::dT::dU::dV::dW::dX::dY::dZ::eA::eB::eC::eD::eE::eF::eG::eH::eI::eJ::eK::eL::eM::eN::eO::eP::eQ::eR::eS::eT::eU::eV::eW::eX::eY::eZ::fA::fB::fC::fD::fE::fF::fG::fH::fI::fJ::fK::fL::fM::fN::fO::fP::fQ::fR::fS::fT::fU::fV::fW::fX::fY::fZ::gA::gB::aC::aD::p0::x0::aC::x0::aD::x0::aD::p1::p2::x0::aC::p3::p4::p5::p7::aC::p9::aD::pA::z) p8)) := by kernel_rfl
def Wr94_8 (x0 x1 x4 aC aD : V) (H : Heap) (Q : Cont) : Prop := ∀ (x2 x3 x5 x6 x7 x8 x9 aA aB aE aF aG aH aI aJ aK aL aM aN aO aP aQ aR aS aT aU aV aW aX aY aZ cA cB cC cD cE cF cG cH cI cJ cK cL cM cN cO cP cQ cR cS cT cU cV cW cX cY cZ dA dB dC dD dE dF dG dH dI dJ dK dL dM dN dO dP dQ dR dS dT dU dV dW dX dY dZ eA eB eC eD eE eF eG eH eI eJ eK eL eM eN eO eP eQ eR eS eT eU eV eW eX eY eZ fA fB fC fD fE fF fG fH fI fJ fK fL fM fN fO fP fQ fR fS fT fU fV fW fX fY fZ gA gB gC gD gE gF gG gH gI gJ gK gL gM gN gO gP gQ gR gS gT gU gV gW gX gY gZ hA hB hC hD hE hF hG hH hI hJ hK hL : V),wp G r94_8 (x0::x1::x2::x3::x4::x5::x6::x7::x8::x9::aA::aB::aC::aD::aE::aF::aG::aH::aI::aJ::aK::aL::aM::aN::aO::aP::aQ::aR::aS::aT::aU::aV::aW::aX::aY::aZ::cA::cB::cC::cD::cE::cF::cG::cH::cI::cJ::cK::cL::cM::cN::cO::cP::cQ::cR::cS::cT::cU::cV::cW::cX::cY::cZ::dA::dB::dC::dD::dE::dF::dG::dH::dI::dJ::dK::dL::dM::dN::dO::dP::dQ::dR::dS::dT::dU::dV::dW::dX::dY::dZ::eA::eB::eC::eD::eE::eF::eG::eH::eI::eJ::eK::eL::eM::eN::eO::eP::eQ::eR::eS::eT::eU::eV::eW::eX::eY::eZ::fA::fB::fC::fD::fE::fF::fG::fH::fI::fJ::fK::fL::fM::fN::fO::fP::fQ::fR::fS::fT::fU::fV::fW::fX::fY::fZ::gA::gB::gC::gD::gE::gF::gG::gH::gI::gJ::gK::gL::gM::gN::gO::gP::gQ::gR::gS::gT::gU::gV::gW::gX::gY::gZ::hA::hB::hC::hD::hE::hF::hG::hH::hI::hJ::hK::hL::[]) H Q
theorem wr94_9 : wp G r94_9 (x0::x1::x2::x3::x4::x5::x6::x7::x8::x9::aA::aB::aC::aD::aE::aF::aG::aH::aI::aJ::aK::aL::aM::aN::aO::aP::aQ::aR::aS::aT::aU::aV::aW::aX::aY::aZ::cA::cB::cC::cD::cE::cF::cG::cH::cI::cJ::cK::cL::cM::cN::cO::cP::cQ::cR::cS::cT::cU::cV::cW::cX::cY::cZ::dA::dB::dC::dD::dE::dF::dG::dH::dI::dJ::dK::dL::dM::dN::dO::dP::dQ::dR::dS::dT::dU::dV::dW::dX::dY::dZ::eA::eB::eC::eD::eE::eF::eG::eH::eI::eJ::eK::eL::eM::eN::eO::eP::eQ::eR::eS::eT::eU::eV::eW::eX::eY::eZ::fA::fB::fC::fD::fE::fF::fG::fH::fI::fJ::fK::fL::fM::fN::fO::fP::fQ::fR::fS::fT::fU::fV::fW::fX::fY::fZ::gA::gB::gC::gD::gE::gF::gG::gH::gI::gJ::gK::gL::gM::gN::gO::gP::gQ::gR::gS::gT::gU::gV::gW::gX::gY::gZ::hA::hB::hC::hD::hE::hF::hG::hH::hI::hJ::hK::hL::[]) H Q = (
  bd (iadrV 2 x0 x1) fun p0=>
  bd (ldV H p0 2 true) fun p1=>
  bd (iadrV 2 x0 aD) fun p2=>
  bd (ldV H p2 2 true) fun p3=>
  bd (iadrV 2 x0 aD) fun p4=>
  true = true ∧ bd (stV H 2 p4 p1) fun p5=>
  bd (iadrV 2 x0 x1) fun p6=>
  true = true ∧ bd (stV p5 2 p6 p3) fun p7=>
  Q .r (x0::x1::x2::x3::x4::x5::x6::x7::x8::x9::aD::(.bool false)::aC::aD::aE::aF::aG::aH::aI::aJ::aK::aL::aM::aN::aO::aP::aQ::aR::aS::aT::aU::aV::aW::aX::aY::aZ::cA::cB::cC::cD::cE::cF::cG::cH::cI::cJ::cK::cL::cM::cN::cO::cP::cQ::cR::cS::cT::cU::cV::cW::cX::cY::cZ::dA::dB::dC::dD::dE::dF::dG::dH::dI::dJ::dK::dL::dM::dN::dO::dP::dQ::dR::dS::dT::dU::dV::dW::dX::dY::dZ::eA::eB::eC::eD::eE::eF::eG::eH::eI::eJ::eK::eL::eM::eN::eO::eP::eQ::eR::eS::eT::eU::eV::eW::eX::eY::eZ::fA::fB::fC::fD::fE::fF::fG::fH::fI::fJ::fK::fL::fM::fN::fO::fP::fQ::fR::fS::fT::fU::fV::fW::fX::fY::fZ::gA::gB::gC::gD::gE::gF::gG::gH::gI::gJ::gK::gL::gM::gN::gO::gP::gQ::gR::gS::gT::gU::gV::gW::x0::aD::x0::x1::x0::x1::p0::p1::x0::aD::p2::p3::p4::p6::aD::[]) p7) := by kernel_rfl
def Wr94_9 (x0 x1 aD : V) (H : Heap) (Q : Cont) : Prop := ∀ (x2 x3 x4 x5 x6 x7 x8 x9 aA aB aC aE aF aG aH aI aJ aK aL aM aN aO aP aQ aR aS aT aU aV aW aX aY aZ cA cB cC cD cE cF cG cH cI cJ cK cL cM cN cO cP cQ cR cS cT cU cV cW cX cY cZ dA dB dC dD dE dF dG dH dI dJ dK dL dM dN dO dP dQ dR dS dT dU dV dW dX dY dZ eA eB eC eD eE eF eG eH eI eJ eK eL eM eN eO eP eQ eR eS eT eU eV eW eX eY eZ fA fB fC fD fE fF fG fH fI fJ fK fL fM fN fO fP fQ fR fS fT fU fV fW fX fY fZ gA gB gC gD gE gF gG gH gI gJ gK gL gM gN gO gP gQ gR gS gT gU gV gW gX gY gZ hA hB hC hD hE hF hG hH hI hJ hK hL : V),wp G r94_9 (x0::x1::x2::x3::x4::x5::x6::x7::x8::x9::aA::aB::aC::aD::aE::aF::aG::aH::aI::aJ::aK::aL::aM::aN::aO::aP::aQ::aR::aS::aT::aU::aV::aW::aX::aY::aZ::cA::cB::cC::cD::cE::cF::cG::cH::cI::cJ::cK::cL::cM::cN::cO::cP::cQ::cR::cS::cT::cU::cV::cW::cX::cY::cZ::dA::dB::dC::dD::dE::dF::dG::dH::dI::dJ::dK::dL::dM::dN::dO::dP::dQ::dR::dS::dT::dU::dV::dW::dX::dY::dZ::eA::eB::eC::eD::eE::eF::eG::eH::eI::eJ::eK::eL::eM::eN::eO::eP::eQ::eR::eS::eT::eU::eV::eW::eX::eY::eZ::fA::fB::fC::fD::fE::fF::fG::fH::fI::fJ::fK::fL::fM::fN::fO::fP::fQ::fR::fS::fT::fU::fV::fW::fX::fY::fZ::gA::gB::gC::gD::gE::gF::gG::gH::gI::gJ::gK::gL::gM::gN::gO::gP::gQ::gR::gS::gT::gU::gV::gW::gX::gY::gZ::hA::hB::hC::hD::hE::hF::hG::hH::hI::hJ::hK::hL::[]) H Q
theorem w98 : runW G i98 [x0,x1,x2,x3,x4] H k = (
  Lp G b98_0 (x0::x1::x2::x3::x4::undefV::undefV::undefV::undefV::undefV::x1::undefV::x1::undefV::undefV::undefV::undefV::undefV::undefV::undefV::undefV::undefV::undefV::undefV::undefV::undefV::undefV::undefV::undefV::undefV::undefV::undefV::undefV::undefV::undefV::undefV::undefV::undefV::undefV::undefV::undefV::undefV::undefV::undefV::undefV::undefV::undefV::undefV::undefV::undefV::undefV::undefV::undefV::undefV::undefV::undefV::undefV::undefV::undefV::undefV::undefV::undefV::undefV::undefV::undefV::undefV::undefV::undefV::undefV::undefV::undefV::undefV::undefV::undefV::undefV::undefV::undefV::undefV::undefV::undefV::undefV::undefV::[]) H (blockQ 0 (retQ i98 k))) := by kernel_rfl
@[simp] theorem ret98 : retQ i98 k .r (z) H = k (.tup []) H := nrfl
@[simp] theorem ret98n : retQ i98 k .n (z) H = k (.tup []) H := nrfl
theorem wb98_0 : wp G b98_0 (x0::x1::x2::x3::x4::x5::x6::x7::x8::x9::aA::aB::aC::aD::aE::aF::aG::aH::aI::aJ::aK::aL::aM::aN::aO::aP::aQ::aR::aS::aT::aU::aV::aW::aX::aY::aZ::cA::cB::cC::cD::cE::cF::cG::z) H Q = (
  bd (binV .mul (.int .i64 2) aA) fun p0=>
  bd (binV .add p0 (.int .i64 1)) fun p1=>
  bd (binV .geq p1 x2) fun p2=>
  ifB p2
   (Q (.e 0) (x0::x1::x2::x3::x4::x5::x6::x7::x8::x9::aA::p1::aC::aA::p0::p1::p1::x2::p2::aJ::aK::aL::aM::aN::aO::aP::aQ::aR::aS::aT::aU::aV::aW::aX::aY::aZ::cA::cB::cC::cD::cE::cF::cG::z) H)
   (bd (binV .add p1 (.int .i64 1)) fun p3=>
   bd (binV .lss p3 x2) fun p4=>
   wpg (gdV p4 true) H (fun k => k x4 H) fun p5 p6=>
   wpg (gdV p4 true) p6 (fun k => k x0 p6) fun p7 p8=>
   wpg (gdV p4 true) p8 (fun k => k x3 p8) fun p9 pA=>
   wpg (gdV p4 true) pA (fun k => k p1 pA) fun pB pC=>
   wpg (gdV p4 true) pC (fun k => bd (binV .add p9 pB) fun pD => k pD pC) fun pE pF=>
   wpg (gdV p4 true) pF (fun k => bd (iadrV 2 p7 pE) fun pG => k pG pF) fun pH pI=>
   wpg (gdV p4 true) pI (fun k => bd (ldV pI pH 2 true) fun pJ => k pJ pI) fun pK pL=>
   wpg (gdV p4 true) pL (fun k => k x0 pL) fun pM pN=>
   wpg (gdV p4 true) pN (fun k => k x3 pN) fun pO pP=>
   wpg (gdV p4 true) pP (fun k => k p1 pP) fun pQ pR=>
   wpg (gdV p4 true) pR (fun k => bd (binV .add pO pQ) fun pS => k pS pR) fun pT pU=>
   wpg (gdV p4 true) pU (fun k => bd (binV .add pT (.int .i64 1)) fun pV => k pV pU) fun pW pX=>
   wpg (gdV p4 true) pX (fun k => bd (iadrV 2 pM pW) fun pY => k pY pX) fun pZ pa=>
   wpg (gdV p4 true) pa (fun k => bd (ldV pa pZ 2 true) fun pb => k pb pa) fun pc pd=>
   wpg (gdV p4 true) pd (fun k => bd (callV p5) fun c => (true || G.pur c.1) = true ∧ Cl G c.1 ([pK,pc] ++ c.2) pd fun pe pf => k pe pf) fun pg ph=>
   wpg (gdV p4 true) ph (fun k => bd (binV .lss pg (.int .i64 0)) fun pi => k pi ph) fun pj pk=>
   bd (pickV p4 pj (.bool false)) fun pl=>
   ifB pl
    (bd (binV .add p1 (.int .i64 1)) fun pm=>
    wp G r98_1 (x0::x1::x2::x3::x4::x5::x6::x7::x8::x9::aA::pm::aC::aA::p0::p1::p1::x2::p2::p1::p3::x2::p4::p4::p5::p7::p9::pB::pE::pH::pK::pM::pO::pQ::pT::pW::pZ::pc::pg::pj::pl::p1::pm::z) pk (blockQ 1 Q))
    (wp G r98_1 (x0::x1::x2::x3::x4::x5::x6::x7::x8::x9::aA::p1::aC::aA::p0::p1::p1::x2::p2::p1::p3::x2::p4::p4::p5::p7::p9::pB::pE::pH::pK::pM::pO::pQ::pT::pW::pZ::pc::pg::pj::pl::cF::cG::z) pk (blockQ 1 Q)))) := by kernel_rfl
def Sb98_0 (I : Nat → V → V → V → V → V → Heap → Prop) : Nat → List V → Heap → Prop := fun i ts H => ts.length = 82 ∧ I i (ts.getD 0 undefV) (ts.getD 2 undefV) (ts.getD 3 undefV) (ts.getD 4 undefV) (ts.getD 10 undefV) H
@[simp] theorem Sb98_0_eq {I : Nat → V → V → V → V → V → Heap → Prop} {i : Nat} : Sb98_0 I i (x0::x1::x2::x3::x4::x5::x6::x7::x8::x9::aA::aB::aC::aD::aE::aF::aG::aH::aI::aJ::aK::aL::aM::aN::aO::aP::aQ::aR::aS::aT::aU::aV::aW::aX::aY::aZ::cA::cB::cC::cD::cE::cF::cG::cH::cI::cJ::cK::cL::cM::cN::cO::cP::cQ::cR::cS::cT::cU::cV::cW::cX::cY::cZ::dA::dB::dC::dD::dE::dF::dG::dH::dI::dJ::dK::dL::dM::dN::dO::dP::dQ::dR::dS::dT::[]) H = I i x0 x2 x3 x4 aA H := propext ⟨fun h => h.2,fun h => ⟨rfl,h⟩⟩
theorem ub98_0 (M : Nat) (I : Nat → V → V → V → V → V → Heap → Prop) (step : ∀ i,i ≤ M → ∀ (x0 x2 x3 x4 aA : V) (H : Heap),I i x0 x2 x3 x4 aA H → ∀ (x1 x5 x6 x7 x8 x9 aB aC aD aE aF aG aH aI aJ aK aL aM aN aO aP aQ aR aS aT aU aV aW aX aY aZ cA cB cC cD cE cF cG cH cI cJ cK cL cM cN cO cP cQ cR cS cT cU cV cW cX cY cZ dA dB dC dD dE dF dG dH dI dJ dK dL dM dN dO dP dQ dR dS dT : V),wp G b98_0 (x0::x1::x2::x3::x4::x5::x6::x7::x8::x9::aA::aB::aC::aD::aE::aF::aG::aH::aI::aJ::aK::aL::aM::aN::aO::aP::aQ::aR::aS::aT::aU::aV::aW::aX::aY::aZ::cA::cB::cC::cD::cE::cF::cG::cH::cI::cJ::cK::cL::cM::cN::cO::cP::cQ::cR::cS::cT::cU::cV::cW::cX::cY::cZ::dA::dB::dC::dD::dE::dF::dG::dH::dI::dJ::dK::dL::dM::dN::dO::dP::dQ::dR::dS::dT::[]) H (upQ M (Sb98_0 I) i Q)) (i : Nat) (hi : i ≤ M) (h : I i x0 x2 x3 x4 aA H) : Lp G b98_0 (x0::x1::x2::x3::x4::x5::x6::x7::x8::x9::aA::aB::aC::aD::aE::aF::aG::aH::aI::aJ::aK::aL::aM::aN::aO::aP::aQ::aR::aS::aT::aU::aV::aW::aX::aY::aZ::cA::cB::cC::cD::cE::cF::cG::cH::cI::cJ::cK::cL::cM::cN::cO::cP::cQ::cR::cS::cT::cU::cV::cW::cX::cY::cZ::dA::dB::dC::dD::dE::dF::dG::dH::dI::dJ::dK::dL::dM::dN::dO::dP::dQ::dR::dS::dT::[]) H Q :=
  Lp.up (S := Sb98_0 I) (fun i t H hi hS => (congrArg (fun t => wp G b98_0 t H (upQ M (Sb98_0 I) i Q)) (tabF_eq hS.1)).mpr (step i hi _ _ _ _ _ H hS.2 ..)) _ i _ H rfl hi ⟨rfl,h⟩
theorem wr98_1 : wp G r98_1 (x0::x1::x2::x3::x4::x5::x6::x7::x8::x9::aA::aB::aC::aD::aE::aF::aG::aH::aI::aJ::aK::aL::aM::aN::aO::aP::aQ::aR::aS::aT::aU::aV::aW::aX::aY::aZ::cA::cB::cC::cD::cE::cF::cG::cH::cI::cJ::cK::cL::cM::cN::cO::cP::cQ::cR::cS::cT::cU::cV::cW::cX::cY::cZ::dA::dB::dC::dD::dE::dF::dG::dH::dI::dJ::dK::dL::dM::dN::dO::dP::dQ::dR::dS::dT::[]) H Q = (
  bd (binV .add x3 aA) fun p0=>
  bd (iadrV 2 x0 p0) fun p1=>
  bd (ldV H p1 2 true) fun p2=>
  bd (binV .add x3 aB) fun p3=>
  bd (iadrV 2 x0 p3) fun p4=>
  bd (ldV H p4 2 true) fun p5=>
  bd (callV x4) fun c => (true || G.pur c.1) = true ∧ Cl G c.1 ([p2,p5] ++ c.2) H fun p6 p7=>
  bd (binV .lss p6 (.int .i64 0)) fun p8=>
  bd (unV .not p8) fun p9=>
  ifB p9
   (Q .r (x0::x1::x2::x3::x4::x5::x6::x7::x8::x9::aA::aB::aC::aD::aE::aF::aG::aH::aI::aJ::aK::aL::aM::aN::aO::aP::aQ::aR::aS::aT::aU::aV::aW::aX::aY::aZ::cA::cB::cC::cD::cE::cF::cG::x4::x0::x3::aA::p0::p1::p2::x0::x3::aB::p3::p4::p5::p6::p8::p9::cX::cY::cZ::dA::dB::dC::dD::dE::dF::dG::dH::dI::dJ::dK::dL::dM::dN::dO::dP::dQ::dR::dS::dT::[]) p7)
   (bd (binV .add x3 aA) fun pA=>
   bd (binV .add x3 aB) fun pB=>
   bd (binV .add x3 aB) fun pC=>
   bd (iadrV 2 x0 pC) fun pD=>
   bd (ldV p7 pD 2 true) fun pE=>
   bd (binV .add x3 aA) fun pF=>
   bd (iadrV 2 x0 pF) fun pG=>
   bd (ldV p7 pG 2 true) fun pH=>
   bd (iadrV 2 x0 pA) fun pI=>
   true = true ∧ bd (stV p7 2 pI pE) fun pJ=>
   bd (iadrV 2 x0 pB) fun pK=>
   true = true ∧ bd (stV pJ 2 pK pH) fun pL=>
   Q .n (x0::x1::x2::x3::x4::x5::x6::x7::x8::x9::aB::aB::aC::aD::aE::aF::aG::aH::aI::aJ::aK::aL::aM::aN::aO::aP::aQ::aR::aS::aT::aU::aV::aW::aX::aY::aZ::cA::cB::cC::cD::cE::cF::cG::x4::x0::x3::aA::p0::p1::p2::x0::x3::aB::p3::p4::p5::p6::p8::p9::x0::x3::aA::pA::x0::x3::aB::pB::x0::x3::aB::pC::pD::pE::x0::x3::aA::pF::pG::pH::pI::pK::aB::[]) pL)) := by kernel_rfl
def Wr98_1 (x0 x2 x3 x4 aA aB : V) (H : Heap) (Q : Cont) : Prop := ∀ (x1 x5 x6 x7 x8 x9 aC aD aE aF aG aH aI aJ aK aL aM aN aO aP aQ aR aS aT aU aV aW aX aY aZ cA cB cC cD cE cF cG cH cI cJ cK cL cM cN cO cP cQ cR cS cT cU cV cW cX cY cZ dA dB dC dD dE dF dG dH dI dJ dK dL dM dN dO dP dQ dR dS dT : V),wp G r98_1 (x0::x1::x2::x3::x4::x5::x6::x7::x8::x9::aA::aB::aC::aD::aE::aF::aG::aH::aI::aJ::aK::aL::aM::aN::aO::aP::aQ::aR::aS::aT::aU::aV::aW::aX::aY::aZ::cA::cB::cC::cD::cE::cF::cG::cH::cI::cJ::cK::cL::cM::cN::cO::cP::cQ::cR::cS::cT::cU::cV::cW::cX::cY::cZ::dA::dB::dC::dD::dE::dF::dG::dH::dI::dJ::dK::dL::dM::dN::dO::dP::dQ::dR::dS::dT::[]) H Q
theorem w99 : runW G i99 [x0] H k = (
  bd (convV .u64 x0) fun p0=>
  (true || G.pur 84) = true ∧ Cl G 84 [p0] H fun p1 p2=>
  bd (binV .shl (.int .u64 1) p1) fun p3=>
  k p3 p2) := by kernel_rfl
theorem w100 : runW G i100 [x0] H k = (
  bd (nilckV x0) fun p0=>
  bd (ldV H p0 1 false) fun p1=>
  bd (nilckV x0) fun p2=>
  bd (ldV H p2 1 false) fun p3=>
  bd (binV .shl p3 (.int .u64 13)) fun p4=>
  bd (binV .xor p1 p4) fun p5=>
  bd (nilckV x0) fun p6=>
  true = true ∧ bd (stV H 1 p6 p5) fun p7=>
  bd (nilckV x0) fun p8=>
  bd (ldV p7 p8 1 false) fun p9=>
  bd (nilckV x0) fun pA=>
  bd (ldV p7 pA 1 false) fun pB=>
  bd (binV .shr pB (.int .u64 7)) fun pC=>
  bd (binV .xor p9 pC) fun pD=>
  bd (nilckV x0) fun pE=>
  true = true ∧ bd (stV p7 1 pE pD) fun pF=>
  bd (nilckV x0) fun pG=>
  bd (ldV pF pG 1 false) fun pH=>
  bd (nilckV x0) fun pI=>
  bd (ldV pF pI 1 false) fun pJ=>
  bd (binV .shl pJ (.int .u64 17)) fun pK=>
  bd (binV .xor pH pK) fun pL=>
  bd (nilckV x0) fun pM=>
  true = true ∧ bd (stV pF 1 pM pL) fun pN=>
  bd (nilckV x0) fun pO=>
  bd (ldV pN pO 1 false) fun pP=>
  k pP pN) := by kernel_rfl
theorem w101 : runW G i101 [x0,x1,x2,x3] H k = (
  bd (binV .sub x1 (.int .i64 1)) fun p0=>
  bd (binV .add x1 (.int .i64 1)) fun p1=>
  (true || G.pur 102) = true ∧ Cl G 102 [x0,p0,x1,p1,x2,x3] H fun p2 p3=>
  k p2 p3) := by kernel_rfl
theorem w102 : runW G i102 [x0,x1,x2,x3,x4,x5] H k = (
  (true || G.pur 103) = true ∧ Cl G 103 [x0,x1,x2,x4,x5] H fun p0 p1=>
  bd (extV 0 p0) fun p2=>
  bd (extV 1 p0) fun p3=>
  (true || G.pur 103) = true ∧ Cl G 103 [x0,p3,x3,x4,x5] p1 fun p4 p5=>
  bd (extV 0 p4) fun p6=>
  bd (extV 1 p4) fun p7=>
  (true || G.pur 103) = true ∧ Cl G 103 [x0,p2,p6,x4,x5] p5 fun p8 p9=>
  bd (extV 0 p8) fun pA=>
  bd (extV 1 p8) fun pB=>
  k pB p9) := by kernel_rfl
theorem w103 : runW G i103 [x0,x1,x2,x3,x4] H k = (
  bd (iadrV 2 x0 x2) fun p0=>
  bd (ldV H p0 2 true) fun p1=>
  bd (iadrV 2 x0 x1) fun p2=>
  bd (ldV H p2 2 true) fun p3=>
  bd (callV x4) fun c => (true || G.pur c.1) = true ∧ Cl G c.1 ([p1,p3] ++ c.2) H fun p4 p5=>
  bd (binV .lss p4 (.int .i64 0)) fun p6=>
  ifB p6
   (bd (nilckV x3) fun p7=>
   bd (ldV p5 p7 1 false) fun p8=>
   bd (binV .add p8 (.int .i64 1)) fun p9=>
   bd (nilckV x3) fun pA=>
   true = true ∧ bd (stV p5 1 pA p9) fun pB=>
   k (.tup [x2,x1]) pB)
   (k (.tup [x1,x2]) p5)) := by kernel_rfl
end
end Go.Proofs.Ytoommmeapdkopaa.E
