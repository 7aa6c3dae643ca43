/- The walks of the functions, part 7, written by a program: what the abstract walk of each body comes to. No statement is proved here. -/
import Derived.Test.YtlfhohhpeklnkaaGreatFn
import Derived.Test.YtlfhohhpeklnkaaGreatVm15
set_option maxRecDepth 100000
set_option linter.unusedVariables false
namespace Go.Lead
open Go Go.Proofs
variable {h :Hp} {R:Value->Hp->Prop}

theorem Bn {s1:Sl} (e:ac (decide ((s1.n:Int)>1048576)) (R (.bool true) h) (dk #[s1.v] h fun v1 h1=> ∃(s2 s3 s4 s5 s6:Sl),v1=(Zg s2 s3 s4 s5 s6)/\Zn h1 [Zv,Zv,Zv,Zv,Zv] 5 fun b1 h2=>Zs h2 b1 0 5 [s2.v,s3.v,s4.v,s5.v,s6.v] fun h3=>Z5 h3 b1 fun s7 s8 s9 s10 s11=>iR #[(Zg s7 s8 s9 s10 s11)] h3 (rI fun x1 h4=>aH (fun u1 h5 w1=> ∃(b2 o1:Nat) (x2:Int) (c1:Bool) (x3:Int),u1= [(Zp b2 o1),I x2, .bool c1,I x3]/\ac (decide (x3<5)) (Y5 h5 b2 o1 fun s12 s13 s14 s15 s16=>lq #[(Zg s12 s13 s14 s15 s16),I x3] h5 (rI fun x4 h6=>aF (fun(c2:Bool) (h7:Hp)=>ac c2 (R (.bool false) h7) (ac c1 (w1 [(Zp b2 o1),I x2, .bool true,I (W (x3+1))] h7) (w1 [(Zp b2 o1),I x2,(.bool (x4==0)),I (W (x3+1))] h7))) fun J1=>Y5 h6 b2 o1 fun s17 s18 s19 s20 s21=>qn #[(Zg s17 s18 s19 s20 s21),I x3] h6 (rI fun x5 h7=>ac (x4 !=x5) (J1 true h7) (ac (x4==0) (ac (decide (x2>=0)) (J1 true h7) (ac (decide (x2>=0)) (ac (!((x4==1)==(decide (x2<x3)))) (J1 true h7) (ac c1 (J1 (x4 !=0) h7) (J1 false h7))) (ac (!((x4==1)==false)) (J1 true h7) (ac c1 (J1 (x4 !=0) h7) (J1 false h7))))) (ac (decide (x2>=0)) (ac (!((x4==1)==(decide (x2<x3)))) (J1 true h7) (ac c1 (J1 (x4 !=0) h7) (J1 false h7))) (ac (!((x4==1)==false)) (J1 true h7) (ac c1 (J1 (x4 !=0) h7) (J1 false h7)))))))) (R (.bool true) h5)) [(Zp b1 0),I x1, .bool false,I 1] h4))):td #[s1.v] h R:=acq Tryz.func7 (an 7 [(3,aP),(4,aI),(5,aB),(6,aI)] a0) e

end Go.Lead
