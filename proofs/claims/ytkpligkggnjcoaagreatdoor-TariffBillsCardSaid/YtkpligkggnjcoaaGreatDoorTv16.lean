/- TariffBills: for every input the law returns true, and the input reads as it did; the listed variables are tied to the program's text. No conditions. -/
import Derived.Test.YtkpligkggnjcoaaGreatDoorTv15
import Derived.Test.YtkpligkggnjcoaaGreatDoorTie
import Derived.Test.YtkpligkggnjcoaaGreatDoorCards
import Derived.SevenTiedAt
/-! TZ5 -/
namespace Go.Proofs.YtkpligkggnjcoaaGreatDoor
open Ev K
open Go.ChangeShapes Go.WideShapes Go.RowKit
set_option maxRecDepth 100000
theorem law_pc (a):PC P 4 (D_bil.enc a) (.bool true):=call_of okP tRP32 (lb_eq a)
theorem tariffBills_lifted (os:Os) (started:os.Started) (H:Type) (enc:TypeId × Value→H) :
  ReturnsInHanded {} Tryz.checked os 4 .any (fun w args=>(Rows.tariffBillsSpec.pre enc Tryz.prog Tryz.f4 [] false w args∧laidMetH Tryz.prog Rows.tariffBillsRow.laid w)∧sizedMet enc Tryz.prog Tryz.f4 (OpenSpec.ofChange Rows.tariffBillsSpec) false w args)
   (Rows.tariffBillsSpec.post enc Tryz.prog Tryz.f4 false true false false):=by
 refine returnsInHanded_of_change_and (C:=Tryz.checked) (X:=fun w _=>laidMetH Tryz.prog Rows.tariffBillsRow.laid w) (fun _ _ _ hh h=>h.of_heap hh) ownP started (by kernel_rfl) Tryz.func4
  (ChangeSpec.witness_shaped (enc:=enc) (C:=Tryz.checked) (os:=os) (X:=fun w _=>laidMetH Tryz.prog Rows.tariffBillsRow.laid w) false (World.laidAll Tryz.prog os laidL) #[.agg #[.slice none 0 0],.slice none 0 0] 8 (World.laidAll_os _ _ _)
   (laid_shaped os _) (by kernel_rfl) (by kernel_rfl) (by kernel_rfl) ((laid_plain _).mpr (laid_met os _))) ?_
 intro W base args ds gs before hval hW _ _ hL _
 have hG:GOK P W:=gok_of ((laid_plain W).mp hL)
 refine law_contract (P:=Tryz.prog) D_bil laidP (by kernel_rfl) rfl (fun ds hd=>?_) (fun W' b sp hd=>trodAll_mk1 (shut_bool ub true)) (fun W'=>ok_one (by kernel_rfl) rfl (okWide_bool_mk ub true)) (fun W base args ds p hval hA=>?_) law_pc W base args ds gs before hval hW hG
 ·rw [Tryz.params4] at hd
  match ds,hd with
  | [a,b],_=>rfl
 ·rw [Tryz.params4] at hA hval
  obtain ⟨v0,vs0,d0,ds0,p0,q0,e0,_,_,h0,r0⟩:=trodAll_cons hA
  obtain ⟨v1,vs1,d1,ds1,p1,q1,e1,_,_,h1,r1⟩:=trodAll_cons r0
  obtain ⟨e2,_,_⟩:=trodAll_nil r1
  subst e2;subst e1
  have ha:args=#[v0,v1]:=by apply Array.ext';exact e0
  subst ha
  exact rdL_cons (rp_tariff (hval 0 _ v0 rfl rfl) h0) (rdL_last (rp_lots (hval 1 _ v1 rfl rfl) h1))
theorem tariffBills_row:Rows.TariffBillsSaid:=
 OpenClaim.holds_of_wide 4 Tryz.f4 rfl rfl rfl rfl rfl rfl rfl ⟨rfl,rfl,rfl,rfl,rfl⟩ rfl rfl rfl rfl rfl tariffBills_func Tryz.func4 tariffBills_joined
  (of_decide_eq_true (by kernel_rfl)) (by unfold Func.isWrapper;rw [if_neg (of_decide_eq_false (by kernel_rfl))];exact ⟨rfl,rfl⟩)
  (fun os started H enc _=>tariffBills_lifted os started H enc)
theorem tariffBills_holds:Rows.TariffBillsCardSaid:=
 Claim7.holds_tied_plain_at .later [] [.data,.data,.data,.sentinel,.sentinel,.listed,.data] true (true,"fcbc0f06cfb0852765b5d314151e6a6b6fa20a409caa56c6c083d63a06688d16") true
  tariffBills_row (fun _ h=>by cases h) tariffBills_wf (fun _ h=>by cases h) tariffBills_row_tie rfl ⟨rfl,rfl⟩ main_is rfl
  (fun f fn hf hfn=>by
   obtain rfl:f=4:=Option.some.inj (tariffBills_func.symm.trans hf) |>.symm
   obtain rfl:fn=Tryz.f4:=(Option.some.inj (Tryz.func4.symm.trans hfn)).symm
   exact ⟨looks_is,fun j t ht=>by
    rw [Tryz.params4] at ht
    have hm:t ∈ [25,34]:=by simpa using Array.mem_of_getElem? ht
    have hall:([25,34].all fun u=>!Tryz.prog.wantsStandIn u)=true:=by kernel_rfl
    exact (show Tryz.prog.wantsStandIn t=false by simpa using List.all_eq_true.1 hall t hm)⟩)
  tariffBills_goes
#print axioms tariffBills_holds
end Go.Proofs.YtkpligkggnjcoaaGreatDoor
