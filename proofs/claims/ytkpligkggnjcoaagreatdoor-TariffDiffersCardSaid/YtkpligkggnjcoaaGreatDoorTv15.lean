/- TariffDiffers: for every input the law returns true, and the input reads as it did; the listed variables are tied to the program's text. No conditions. -/
import Derived.Test.YtkpligkggnjcoaaGreatDoorTv14
import Derived.Test.YtkpligkggnjcoaaGreatDoorTie
import Derived.Test.YtkpligkggnjcoaaGreatDoorCards
import Derived.SevenTiedAt
/-! TZ7 -/
namespace Go.Proofs.YtkpligkggnjcoaaGreatDoor
open Ev K
open Go.ChangeShapes Go.WideShapes Go.RowKit
set_option maxRecDepth 100000
theorem law_pc (a):PC P 6 (D_ld.enc a) (.bool true):=call_of okP tTO25 (ld_eq a)
theorem tariffDiffers_lifted (os:Os) (started:os.Started) (H:Type) (enc:TypeId × Value→H) :
  ReturnsInHanded {} Tryz.checked os 6 .any (fun w args=>(Rows.tariffDiffersSpec.pre enc Tryz.prog Tryz.f6 [] false w args∧laidMetH Tryz.prog Rows.tariffDiffersRow.laid w)∧sizedMet enc Tryz.prog Tryz.f6 (OpenSpec.ofChange Rows.tariffDiffersSpec) false w args)
   (Rows.tariffDiffersSpec.post enc Tryz.prog Tryz.f6 false true false false):=by
 refine returnsInHanded_of_change_and (C:=Tryz.checked) (X:=fun w _=>laidMetH Tryz.prog Rows.tariffDiffersRow.laid w) (fun _ _ _ hh h=>h.of_heap hh) ownP started (by kernel_rfl) Tryz.func6
  (ChangeSpec.witness_shaped (enc:=enc) (C:=Tryz.checked) (os:=os) (X:=fun w _=>laidMetH Tryz.prog Rows.tariffDiffersRow.laid w) false (World.laidAll Tryz.prog os laidL) #[.agg #[.slice none 0 0],.agg #[.slice none 0 0],.agg (Array.replicate 2 (.int .i64 0)),.string ⟨#[]⟩,.string ⟨#[]⟩,.int .i64 0,.slice none 0 0] 8 (World.laidAll_os _ _ _)
   (laid_shaped os _) (by kernel_rfl) (by kernel_rfl) (by kernel_rfl) ((laid_plain _).mpr (laid_met os _))) ?_
 intro W base args ds gs before hval hW _ _ hL _
 have hG:GOK P W:=gok_of ((laid_plain W).mp hL)
 refine law_contract (P:=Tryz.prog) D_ld laidP (by kernel_rfl) rfl (fun ds hd=>?_) (fun W' b sp hd=>trodAll_mk1 (shut_bool ub true)) (fun W'=>ok_one (by kernel_rfl) rfl (okWide_bool_mk ub true)) (fun W base args ds p hval hA=>?_) law_pc W base args ds gs before hval hW hG
 ·rw [Tryz.params6] at hd
  match ds,hd with
  | [a,b,c,d,e,f,g],_=>rfl
 ·rw [Tryz.params6] at hA hval
  obtain ⟨v0,vs0,d0,ds0,p0,q0,e0,_,_,h0,r0⟩:=trodAll_cons hA
  obtain ⟨v1,vs1,d1,ds1,p1,q1,e1,_,_,h1,r1⟩:=trodAll_cons r0
  obtain ⟨v2,vs2,d2,ds2,p2,q2,e2,_,_,h2,r2⟩:=trodAll_cons r1
  obtain ⟨v3,vs3,d3,ds3,p3,q3,e3,_,_,h3,r3⟩:=trodAll_cons r2
  obtain ⟨v4,vs4,d4,ds4,p4,q4,e4,_,_,h4,r4⟩:=trodAll_cons r3
  obtain ⟨v5,vs5,d5,ds5,p5,q5,e5,_,_,h5,r5⟩:=trodAll_cons r4
  obtain ⟨v6,vs6,d6,ds6,p6,q6,e6,_,_,h6,r6⟩:=trodAll_cons r5
  obtain ⟨e7,_,_⟩:=trodAll_nil r6
  subst e7;subst e6;subst e5;subst e4;subst e3;subst e2;subst e1
  have ha:args=#[v0,v1,v2,v3,v4,v5,v6]:=by apply Array.ext';exact e0
  subst ha
  exact rdL_cons (rp_tariff (hval 0 _ v0 rfl rfl) h0) (rdL_cons (rp_tariff (hval 1 _ v1 rfl rfl) h1) (rdL_cons (rp_span (hval 2 _ v2 rfl rfl) h2) (rdL_cons (rp_str (hval 3 _ v3 rfl rfl) h3) (rdL_cons (rp_str (hval 4 _ v4 rfl rfl) h4) (rdL_cons (rp_int (hval 5 _ v5 rfl rfl) h5) (rdL_last (rp_lots (hval 6 _ v6 rfl rfl) h6)))))))
theorem tariffDiffers_row:Rows.TariffDiffersSaid:=
 OpenClaim.holds_of_wide 6 Tryz.f6 rfl rfl rfl rfl rfl rfl rfl ⟨rfl,rfl,rfl,rfl,rfl⟩ rfl rfl rfl rfl rfl tariffDiffers_func Tryz.func6 tariffDiffers_joined
  (of_decide_eq_true (by kernel_rfl)) (by unfold Func.isWrapper;rw [if_neg (of_decide_eq_false (by kernel_rfl))];exact ⟨rfl,rfl⟩)
  (fun os started H enc _=>tariffDiffers_lifted os started H enc)
theorem tariffDiffers_holds:Rows.TariffDiffersCardSaid:=
 Claim7.holds_tied_plain_at .later [] [.data,.data,.data,.sentinel,.sentinel,.listed,.data] true (true,"fcbc0f06cfb0852765b5d314151e6a6b6fa20a409caa56c6c083d63a06688d16") true
  tariffDiffers_row (fun _ h=>by cases h) tariffDiffers_wf (fun _ h=>by cases h) tariffDiffers_row_tie rfl ⟨rfl,rfl⟩ main_is rfl
  (fun f fn hf hfn=>by
   obtain rfl:f=6:=Option.some.inj (tariffDiffers_func.symm.trans hf) |>.symm
   obtain rfl:fn=Tryz.f6:=(Option.some.inj (Tryz.func6.symm.trans hfn)).symm
   exact ⟨looks_is,fun j t ht=>by
    rw [Tryz.params6] at ht
    have hm:t ∈ [25,25,53,9,9,3,34]:=by simpa using Array.mem_of_getElem? ht
    have hall:([25,25,53,9,9,3,34].all fun u=>!Tryz.prog.wantsStandIn u)=true:=by kernel_rfl
    exact (show Tryz.prog.wantsStandIn t=false by simpa using List.all_eq_true.1 hall t hm)⟩)
  tariffDiffers_goes
#print axioms tariffDiffers_holds
end Go.Proofs.YtkpligkggnjcoaaGreatDoor
