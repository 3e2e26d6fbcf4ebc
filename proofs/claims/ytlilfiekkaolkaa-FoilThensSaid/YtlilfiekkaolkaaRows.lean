/-
  No cell of these rows narrows 'for every input' (looked for: loops, veiled, ifaces, maps, wideKeys, modest, calm, conditions, laid).
  DERIVED. THE GIVEN ROWS OF THIS SEAT. 25 by the template 'for every input the law returns true; each argument reads behind the call as it read before'; 0 by the template 'total and deterministic' (their statements: YtlilfiekkaolkaaTotals.lean).
  GIVEN WITH THE SEED: the statements are not yours to turn. If you find one false, say at which input.
  Laid BY PROGRAM, IN A SANDBOX (cutbox-rows.mjs): the forced cells as the released guide's own fill.sh prints them over the translation 274ed54db6482601… (all of the seat's roots in one cut). By AI agents, Wed Nov 11 2026. No macro, syntax, notation, axiom, sorry.
-/
import Derived.Test.YtlilfiekkaolkaaChecked
import GoSem.Claim
import GoSem.ClaimJoined
import GoSem.ClaimMapViews
import Derived.JoinedTies
import Derived.KernelRfl
namespace Go.Proofs.Ytlilfiekkaolkaa
/- THE CELL 'sum', in the pinned program and in every row, IS THE sha256 OF THE DUMP (.gsa) THAT YtlilfiekkaolkaaProg.lean LOADS. Nothing in Lean hashes anything: it is a label: what it is worth is what the hold of that sum in a sandbox is worth. -/
noncomputable def Try.pinned : Pinned := { name := "ytlilfiekkaolkaa", sum := "274ed54db64826012461aa7c204f5b2f7ce3558b50e92b438f55202d159e426d", checked := Try.checked }
namespace Rows
def none {H : Type} : Left H := { results := [], args := [] }

/-- 'parrylaw16.SmallShift': WHATEVER THE INPUT: true; the input reads as it did. -/
def smallShiftSpec : ChangeSpec := { name := "smallShift", fn := fun _ => fun
  | [d1, d2] => { results := [.lit (.bool true)], args := [d1, d2] }
  | _ => none }
def smallShiftRow : OpenClaim := { program := "ytlilfiekkaolkaa", sum := "274ed54db64826012461aa7c204f5b2f7ce3558b50e92b438f55202d159e426d", func := "parry/parrylaw16.SmallShift", spec := "smallShift", unfollowed := true, recurses := true, plainKeys := false, apart := false }
def SmallShiftSaid : Prop := smallShiftRow.holds Try.pinned (OpenSpec.ofChange smallShiftSpec)

/-- ITS FALSE NEIGHBOUR: 'it returns false'. Refute it at one input. -/
def smallShiftWrong : ChangeSpec := { name := "smallShift", fn := fun _ => fun
  | [d1, d2] => { results := [.lit (.bool false)], args := [d1, d2] }
  | _ => none }
def SmallShiftWrongFalsely : Prop := smallShiftRow.holds Try.pinned (OpenSpec.ofChange smallShiftWrong)

/-- 'parrylaw14.RecurForced': WHATEVER THE INPUT: true; the input reads as it did. -/
def recurForcedSpec : ChangeSpec := { name := "recurForced", fn := fun _ => fun
  | [d1, d2, d3] => { results := [.lit (.bool true)], args := [d1, d2, d3] }
  | _ => none }
def recurForcedRow : OpenClaim := { program := "ytlilfiekkaolkaa", sum := "274ed54db64826012461aa7c204f5b2f7ce3558b50e92b438f55202d159e426d", func := "parry/parrylaw14.RecurForced", spec := "recurForced", unfollowed := true, recurses := true, plainKeys := false, apart := false }
def RecurForcedSaid : Prop := recurForcedRow.holds Try.pinned (OpenSpec.ofChange recurForcedSpec)

/-- ITS FALSE NEIGHBOUR: 'it returns false'. Refute it at one input. -/
def recurForcedWrong : ChangeSpec := { name := "recurForced", fn := fun _ => fun
  | [d1, d2, d3] => { results := [.lit (.bool false)], args := [d1, d2, d3] }
  | _ => none }
def RecurForcedWrongFalsely : Prop := recurForcedRow.holds Try.pinned (OpenSpec.ofChange recurForcedWrong)

/-- 'parrylaw14.RecurEither': WHATEVER THE INPUT: true; the input reads as it did. -/
def recurEitherSpec : ChangeSpec := { name := "recurEither", fn := fun _ => fun
  | [d1, d2, d3] => { results := [.lit (.bool true)], args := [d1, d2, d3] }
  | _ => none }
def recurEitherRow : OpenClaim := { program := "ytlilfiekkaolkaa", sum := "274ed54db64826012461aa7c204f5b2f7ce3558b50e92b438f55202d159e426d", func := "parry/parrylaw14.RecurEither", spec := "recurEither", unfollowed := true, recurses := true, plainKeys := false, apart := false }
def RecurEitherSaid : Prop := recurEitherRow.holds Try.pinned (OpenSpec.ofChange recurEitherSpec)

/-- ITS FALSE NEIGHBOUR: 'it returns false'. Refute it at one input. -/
def recurEitherWrong : ChangeSpec := { name := "recurEither", fn := fun _ => fun
  | [d1, d2, d3] => { results := [.lit (.bool false)], args := [d1, d2, d3] }
  | _ => none }
def RecurEitherWrongFalsely : Prop := recurEitherRow.holds Try.pinned (OpenSpec.ofChange recurEitherWrong)

/-- 'parrylaw13.SafeStays': WHATEVER THE INPUT: true; the input reads as it did. -/
def safeStaysSpec : ChangeSpec := { name := "safeStays", fn := fun _ => fun
  | [d1, d2, d3] => { results := [.lit (.bool true)], args := [d1, d2, d3] }
  | _ => none }
def safeStaysRow : OpenClaim := { program := "ytlilfiekkaolkaa", sum := "274ed54db64826012461aa7c204f5b2f7ce3558b50e92b438f55202d159e426d", func := "parry/parrylaw13.SafeStays", spec := "safeStays", unfollowed := true, recurses := true, plainKeys := false, apart := false }
def SafeStaysSaid : Prop := safeStaysRow.holds Try.pinned (OpenSpec.ofChange safeStaysSpec)

/-- ITS FALSE NEIGHBOUR: 'it returns false'. Refute it at one input. -/
def safeStaysWrong : ChangeSpec := { name := "safeStays", fn := fun _ => fun
  | [d1, d2, d3] => { results := [.lit (.bool false)], args := [d1, d2, d3] }
  | _ => none }
def SafeStaysWrongFalsely : Prop := safeStaysRow.holds Try.pinned (OpenSpec.ofChange safeStaysWrong)

/-- 'parrylaw19.PlanRight': WHATEVER THE INPUT: true; the input reads as it did. -/
def planRightSpec : ChangeSpec := { name := "planRight", fn := fun _ => fun
  | [d1, d2, d3] => { results := [.lit (.bool true)], args := [d1, d2, d3] }
  | _ => none }
def planRightRow : OpenClaim := { program := "ytlilfiekkaolkaa", sum := "274ed54db64826012461aa7c204f5b2f7ce3558b50e92b438f55202d159e426d", func := "parry/parrylaw19.PlanRight", spec := "planRight", unfollowed := true, recurses := true, plainKeys := false, apart := false }
def PlanRightSaid : Prop := planRightRow.holds Try.pinned (OpenSpec.ofChange planRightSpec)

/-- ITS FALSE NEIGHBOUR: 'it returns false'. Refute it at one input. -/
def planRightWrong : ChangeSpec := { name := "planRight", fn := fun _ => fun
  | [d1, d2, d3] => { results := [.lit (.bool false)], args := [d1, d2, d3] }
  | _ => none }
def PlanRightWrongFalsely : Prop := planRightRow.holds Try.pinned (OpenSpec.ofChange planRightWrong)

/-- 'parrylaw19.PlanThens': WHATEVER THE INPUT: true; the input reads as it did. -/
def planThensSpec : ChangeSpec := { name := "planThens", fn := fun _ => fun
  | [d1, d2, d3, d4] => { results := [.lit (.bool true)], args := [d1, d2, d3, d4] }
  | _ => none }
def planThensRow : OpenClaim := { program := "ytlilfiekkaolkaa", sum := "274ed54db64826012461aa7c204f5b2f7ce3558b50e92b438f55202d159e426d", func := "parry/parrylaw19.PlanThens", spec := "planThens", unfollowed := true, recurses := true, plainKeys := false, apart := false }
def PlanThensSaid : Prop := planThensRow.holds Try.pinned (OpenSpec.ofChange planThensSpec)

/-- ITS FALSE NEIGHBOUR: 'it returns false'. Refute it at one input. -/
def planThensWrong : ChangeSpec := { name := "planThens", fn := fun _ => fun
  | [d1, d2, d3, d4] => { results := [.lit (.bool false)], args := [d1, d2, d3, d4] }
  | _ => none }
def PlanThensWrongFalsely : Prop := planThensRow.holds Try.pinned (OpenSpec.ofChange planThensWrong)

/-- 'parrylaw19.PlanAll': WHATEVER THE INPUT: true; the input reads as it did. -/
def planAllSpec : ChangeSpec := { name := "planAll", fn := fun _ => fun
  | [d1, d2, d3] => { results := [.lit (.bool true)], args := [d1, d2, d3] }
  | _ => none }
def planAllRow : OpenClaim := { program := "ytlilfiekkaolkaa", sum := "274ed54db64826012461aa7c204f5b2f7ce3558b50e92b438f55202d159e426d", func := "parry/parrylaw19.PlanAll", spec := "planAll", unfollowed := true, recurses := true, plainKeys := false, apart := false }
def PlanAllSaid : Prop := planAllRow.holds Try.pinned (OpenSpec.ofChange planAllSpec)

/-- ITS FALSE NEIGHBOUR: 'it returns false'. Refute it at one input. -/
def planAllWrong : ChangeSpec := { name := "planAll", fn := fun _ => fun
  | [d1, d2, d3] => { results := [.lit (.bool false)], args := [d1, d2, d3] }
  | _ => none }
def PlanAllWrongFalsely : Prop := planAllRow.holds Try.pinned (OpenSpec.ofChange planAllWrong)

/-- 'parrylaw19.PlanWalk': WHATEVER THE INPUT: true; the input reads as it did. -/
def planWalkSpec : ChangeSpec := { name := "planWalk", fn := fun _ => fun
  | [d1, d2, d3, d4, d5] => { results := [.lit (.bool true)], args := [d1, d2, d3, d4, d5] }
  | _ => none }
def planWalkRow : OpenClaim := { program := "ytlilfiekkaolkaa", sum := "274ed54db64826012461aa7c204f5b2f7ce3558b50e92b438f55202d159e426d", func := "parry/parrylaw19.PlanWalk", spec := "planWalk", unfollowed := true, recurses := true, plainKeys := false, apart := false }
def PlanWalkSaid : Prop := planWalkRow.holds Try.pinned (OpenSpec.ofChange planWalkSpec)

/-- ITS FALSE NEIGHBOUR: 'it returns false'. Refute it at one input. -/
def planWalkWrong : ChangeSpec := { name := "planWalk", fn := fun _ => fun
  | [d1, d2, d3, d4, d5] => { results := [.lit (.bool false)], args := [d1, d2, d3, d4, d5] }
  | _ => none }
def PlanWalkWrongFalsely : Prop := planWalkRow.holds Try.pinned (OpenSpec.ofChange planWalkWrong)

/-- 'parrylaw17.ProofForms': WHATEVER THE INPUT: true; the input reads as it did. -/
def proofFormsSpec : ChangeSpec := { name := "proofForms", fn := fun _ => fun
  | [d1, d2, d3, d4, d5, d6] => { results := [.lit (.bool true)], args := [d1, d2, d3, d4, d5, d6] }
  | _ => none }
def proofFormsRow : OpenClaim := { program := "ytlilfiekkaolkaa", sum := "274ed54db64826012461aa7c204f5b2f7ce3558b50e92b438f55202d159e426d", func := "parry/parrylaw17.ProofForms", spec := "proofForms", unfollowed := true, recurses := true, plainKeys := false, apart := false }
def ProofFormsSaid : Prop := proofFormsRow.holds Try.pinned (OpenSpec.ofChange proofFormsSpec)

/-- ITS FALSE NEIGHBOUR: 'it returns false'. Refute it at one input. -/
def proofFormsWrong : ChangeSpec := { name := "proofForms", fn := fun _ => fun
  | [d1, d2, d3, d4, d5, d6] => { results := [.lit (.bool false)], args := [d1, d2, d3, d4, d5, d6] }
  | _ => none }
def ProofFormsWrongFalsely : Prop := proofFormsRow.holds Try.pinned (OpenSpec.ofChange proofFormsWrong)

/-- 'parrylaw18.GrAgain': WHATEVER THE INPUT: true; the input reads as it did. -/
def grAgainSpec : ChangeSpec := { name := "grAgain", fn := fun _ => fun
  | [d1, d2] => { results := [.lit (.bool true)], args := [d1, d2] }
  | _ => none }
def grAgainRow : OpenClaim := { program := "ytlilfiekkaolkaa", sum := "274ed54db64826012461aa7c204f5b2f7ce3558b50e92b438f55202d159e426d", func := "parry/parrylaw18.GrAgain", spec := "grAgain", unfollowed := true, recurses := true, plainKeys := false, apart := false }
def GrAgainSaid : Prop := grAgainRow.holds Try.pinned (OpenSpec.ofChange grAgainSpec)

/-- ITS FALSE NEIGHBOUR: 'it returns false'. Refute it at one input. -/
def grAgainWrong : ChangeSpec := { name := "grAgain", fn := fun _ => fun
  | [d1, d2] => { results := [.lit (.bool false)], args := [d1, d2] }
  | _ => none }
def GrAgainWrongFalsely : Prop := grAgainRow.holds Try.pinned (OpenSpec.ofChange grAgainWrong)

/-- 'parrylaw14.RecurMore': WHATEVER THE INPUT: true; the input reads as it did. -/
def recurMoreSpec : ChangeSpec := { name := "recurMore", fn := fun _ => fun
  | [d1, d2, d3, d4] => { results := [.lit (.bool true)], args := [d1, d2, d3, d4] }
  | _ => none }
def recurMoreRow : OpenClaim := { program := "ytlilfiekkaolkaa", sum := "274ed54db64826012461aa7c204f5b2f7ce3558b50e92b438f55202d159e426d", func := "parry/parrylaw14.RecurMore", spec := "recurMore", unfollowed := true, recurses := true, plainKeys := false, apart := false }
def RecurMoreSaid : Prop := recurMoreRow.holds Try.pinned (OpenSpec.ofChange recurMoreSpec)

/-- ITS FALSE NEIGHBOUR: 'it returns false'. Refute it at one input. -/
def recurMoreWrong : ChangeSpec := { name := "recurMore", fn := fun _ => fun
  | [d1, d2, d3, d4] => { results := [.lit (.bool false)], args := [d1, d2, d3, d4] }
  | _ => none }
def RecurMoreWrongFalsely : Prop := recurMoreRow.holds Try.pinned (OpenSpec.ofChange recurMoreWrong)

/-- 'parrylaw14.RecurComes': WHATEVER THE INPUT: true; the input reads as it did. -/
def recurComesSpec : ChangeSpec := { name := "recurComes", fn := fun _ => fun
  | [d1, d2, d3] => { results := [.lit (.bool true)], args := [d1, d2, d3] }
  | _ => none }
def recurComesRow : OpenClaim := { program := "ytlilfiekkaolkaa", sum := "274ed54db64826012461aa7c204f5b2f7ce3558b50e92b438f55202d159e426d", func := "parry/parrylaw14.RecurComes", spec := "recurComes", unfollowed := true, recurses := true, plainKeys := false, apart := false }
def RecurComesSaid : Prop := recurComesRow.holds Try.pinned (OpenSpec.ofChange recurComesSpec)

/-- ITS FALSE NEIGHBOUR: 'it returns false'. Refute it at one input. -/
def recurComesWrong : ChangeSpec := { name := "recurComes", fn := fun _ => fun
  | [d1, d2, d3] => { results := [.lit (.bool false)], args := [d1, d2, d3] }
  | _ => none }
def RecurComesWrongFalsely : Prop := recurComesRow.holds Try.pinned (OpenSpec.ofChange recurComesWrong)

/-- 'parrylaw15.ParityForms': WHATEVER THE INPUT: true; the input reads as it did. -/
def parityFormsSpec : ChangeSpec := { name := "parityForms", fn := fun _ => fun
  | [d1, d2] => { results := [.lit (.bool true)], args := [d1, d2] }
  | _ => none }
def parityFormsRow : OpenClaim := { program := "ytlilfiekkaolkaa", sum := "274ed54db64826012461aa7c204f5b2f7ce3558b50e92b438f55202d159e426d", func := "parry/parrylaw15.ParityForms", spec := "parityForms", unfollowed := true, recurses := true, plainKeys := false, apart := false }
def ParityFormsSaid : Prop := parityFormsRow.holds Try.pinned (OpenSpec.ofChange parityFormsSpec)

/-- ITS FALSE NEIGHBOUR: 'it returns false'. Refute it at one input. -/
def parityFormsWrong : ChangeSpec := { name := "parityForms", fn := fun _ => fun
  | [d1, d2] => { results := [.lit (.bool false)], args := [d1, d2] }
  | _ => none }
def ParityFormsWrongFalsely : Prop := parityFormsRow.holds Try.pinned (OpenSpec.ofChange parityFormsWrong)

/-- 'parrylaw15.ParityRight': WHATEVER THE INPUT: true; the input reads as it did. -/
def parityRightSpec : ChangeSpec := { name := "parityRight", fn := fun _ => fun
  | [d1, d2] => { results := [.lit (.bool true)], args := [d1, d2] }
  | _ => none }
def parityRightRow : OpenClaim := { program := "ytlilfiekkaolkaa", sum := "274ed54db64826012461aa7c204f5b2f7ce3558b50e92b438f55202d159e426d", func := "parry/parrylaw15.ParityRight", spec := "parityRight", unfollowed := true, recurses := true, plainKeys := false, apart := false }
def ParityRightSaid : Prop := parityRightRow.holds Try.pinned (OpenSpec.ofChange parityRightSpec)

/-- ITS FALSE NEIGHBOUR: 'it returns false'. Refute it at one input. -/
def parityRightWrong : ChangeSpec := { name := "parityRight", fn := fun _ => fun
  | [d1, d2] => { results := [.lit (.bool false)], args := [d1, d2] }
  | _ => none }
def ParityRightWrongFalsely : Prop := parityRightRow.holds Try.pinned (OpenSpec.ofChange parityRightWrong)

/-- 'parrylaw15.ParityTurned': WHATEVER THE INPUT: true; the input reads as it did. -/
def parityTurnedSpec : ChangeSpec := { name := "parityTurned", fn := fun _ => fun
  | [d1, d2] => { results := [.lit (.bool true)], args := [d1, d2] }
  | _ => none }
def parityTurnedRow : OpenClaim := { program := "ytlilfiekkaolkaa", sum := "274ed54db64826012461aa7c204f5b2f7ce3558b50e92b438f55202d159e426d", func := "parry/parrylaw15.ParityTurned", spec := "parityTurned", unfollowed := true, recurses := true, plainKeys := false, apart := false }
def ParityTurnedSaid : Prop := parityTurnedRow.holds Try.pinned (OpenSpec.ofChange parityTurnedSpec)

/-- ITS FALSE NEIGHBOUR: 'it returns false'. Refute it at one input. -/
def parityTurnedWrong : ChangeSpec := { name := "parityTurned", fn := fun _ => fun
  | [d1, d2] => { results := [.lit (.bool false)], args := [d1, d2] }
  | _ => none }
def ParityTurnedWrongFalsely : Prop := parityTurnedRow.holds Try.pinned (OpenSpec.ofChange parityTurnedWrong)

/-- 'parrylaw15.ParityOne': WHATEVER THE INPUT: true; the input reads as it did. -/
def parityOneSpec : ChangeSpec := { name := "parityOne", fn := fun _ => fun
  | [d1, d2] => { results := [.lit (.bool true)], args := [d1, d2] }
  | _ => none }
def parityOneRow : OpenClaim := { program := "ytlilfiekkaolkaa", sum := "274ed54db64826012461aa7c204f5b2f7ce3558b50e92b438f55202d159e426d", func := "parry/parrylaw15.ParityOne", spec := "parityOne", unfollowed := true, recurses := true, plainKeys := false, apart := false }
def ParityOneSaid : Prop := parityOneRow.holds Try.pinned (OpenSpec.ofChange parityOneSpec)

/-- ITS FALSE NEIGHBOUR: 'it returns false'. Refute it at one input. -/
def parityOneWrong : ChangeSpec := { name := "parityOne", fn := fun _ => fun
  | [d1, d2] => { results := [.lit (.bool false)], args := [d1, d2] }
  | _ => none }
def ParityOneWrongFalsely : Prop := parityOneRow.holds Try.pinned (OpenSpec.ofChange parityOneWrong)

/-- 'parrylaw15.ParityRecur': WHATEVER THE INPUT: true; the input reads as it did. -/
def parityRecurSpec : ChangeSpec := { name := "parityRecur", fn := fun _ => fun
  | [d1, d2] => { results := [.lit (.bool true)], args := [d1, d2] }
  | _ => none }
def parityRecurRow : OpenClaim := { program := "ytlilfiekkaolkaa", sum := "274ed54db64826012461aa7c204f5b2f7ce3558b50e92b438f55202d159e426d", func := "parry/parrylaw15.ParityRecur", spec := "parityRecur", unfollowed := true, recurses := true, plainKeys := false, apart := false }
def ParityRecurSaid : Prop := parityRecurRow.holds Try.pinned (OpenSpec.ofChange parityRecurSpec)

/-- ITS FALSE NEIGHBOUR: 'it returns false'. Refute it at one input. -/
def parityRecurWrong : ChangeSpec := { name := "parityRecur", fn := fun _ => fun
  | [d1, d2] => { results := [.lit (.bool false)], args := [d1, d2] }
  | _ => none }
def ParityRecurWrongFalsely : Prop := parityRecurRow.holds Try.pinned (OpenSpec.ofChange parityRecurWrong)

/-- 'parrylaw15.ParityLocal': WHATEVER THE INPUT: true; the input reads as it did. -/
def parityLocalSpec : ChangeSpec := { name := "parityLocal", fn := fun _ => fun
  | [d1, d2, d3, d4] => { results := [.lit (.bool true)], args := [d1, d2, d3, d4] }
  | _ => none }
def parityLocalRow : OpenClaim := { program := "ytlilfiekkaolkaa", sum := "274ed54db64826012461aa7c204f5b2f7ce3558b50e92b438f55202d159e426d", func := "parry/parrylaw15.ParityLocal", spec := "parityLocal", unfollowed := true, recurses := true, plainKeys := false, apart := false }
def ParityLocalSaid : Prop := parityLocalRow.holds Try.pinned (OpenSpec.ofChange parityLocalSpec)

/-- ITS FALSE NEIGHBOUR: 'it returns false'. Refute it at one input. -/
def parityLocalWrong : ChangeSpec := { name := "parityLocal", fn := fun _ => fun
  | [d1, d2, d3, d4] => { results := [.lit (.bool false)], args := [d1, d2, d3, d4] }
  | _ => none }
def ParityLocalWrongFalsely : Prop := parityLocalRow.holds Try.pinned (OpenSpec.ofChange parityLocalWrong)

/-- 'parrylaw21.FoilRight': WHATEVER THE INPUT: true; the input reads as it did. -/
def foilRightSpec : ChangeSpec := { name := "foilRight", fn := fun _ => fun
  | [d1, d2, d3] => { results := [.lit (.bool true)], args := [d1, d2, d3] }
  | _ => none }
def foilRightRow : OpenClaim := { program := "ytlilfiekkaolkaa", sum := "274ed54db64826012461aa7c204f5b2f7ce3558b50e92b438f55202d159e426d", func := "parry/parrylaw21.FoilRight", spec := "foilRight", unfollowed := true, recurses := true, plainKeys := false, apart := false }
def FoilRightSaid : Prop := foilRightRow.holds Try.pinned (OpenSpec.ofChange foilRightSpec)

/-- ITS FALSE NEIGHBOUR: 'it returns false'. Refute it at one input. -/
def foilRightWrong : ChangeSpec := { name := "foilRight", fn := fun _ => fun
  | [d1, d2, d3] => { results := [.lit (.bool false)], args := [d1, d2, d3] }
  | _ => none }
def FoilRightWrongFalsely : Prop := foilRightRow.holds Try.pinned (OpenSpec.ofChange foilRightWrong)

/-- 'parrylaw21.FoilThens': WHATEVER THE INPUT: true; the input reads as it did. -/
def foilThensSpec : ChangeSpec := { name := "foilThens", fn := fun _ => fun
  | [d1, d2, d3, d4, d5] => { results := [.lit (.bool true)], args := [d1, d2, d3, d4, d5] }
  | _ => none }
def foilThensRow : OpenClaim := { program := "ytlilfiekkaolkaa", sum := "274ed54db64826012461aa7c204f5b2f7ce3558b50e92b438f55202d159e426d", func := "parry/parrylaw21.FoilThens", spec := "foilThens", unfollowed := true, recurses := true, plainKeys := false, apart := false }
def FoilThensSaid : Prop := foilThensRow.holds Try.pinned (OpenSpec.ofChange foilThensSpec)

/-- ITS FALSE NEIGHBOUR: 'it returns false'. Refute it at one input. -/
def foilThensWrong : ChangeSpec := { name := "foilThens", fn := fun _ => fun
  | [d1, d2, d3, d4, d5] => { results := [.lit (.bool false)], args := [d1, d2, d3, d4, d5] }
  | _ => none }
def FoilThensWrongFalsely : Prop := foilThensRow.holds Try.pinned (OpenSpec.ofChange foilThensWrong)

/-- 'parrylaw21.FoilAll': WHATEVER THE INPUT: true; the input reads as it did. -/
def foilAllSpec : ChangeSpec := { name := "foilAll", fn := fun _ => fun
  | [d1, d2, d3] => { results := [.lit (.bool true)], args := [d1, d2, d3] }
  | _ => none }
def foilAllRow : OpenClaim := { program := "ytlilfiekkaolkaa", sum := "274ed54db64826012461aa7c204f5b2f7ce3558b50e92b438f55202d159e426d", func := "parry/parrylaw21.FoilAll", spec := "foilAll", unfollowed := true, recurses := true, plainKeys := false, apart := false }
def FoilAllSaid : Prop := foilAllRow.holds Try.pinned (OpenSpec.ofChange foilAllSpec)

/-- ITS FALSE NEIGHBOUR: 'it returns false'. Refute it at one input. -/
def foilAllWrong : ChangeSpec := { name := "foilAll", fn := fun _ => fun
  | [d1, d2, d3] => { results := [.lit (.bool false)], args := [d1, d2, d3] }
  | _ => none }
def FoilAllWrongFalsely : Prop := foilAllRow.holds Try.pinned (OpenSpec.ofChange foilAllWrong)

/-- 'parrylaw21.FoilWalk': WHATEVER THE INPUT: true; the input reads as it did. -/
def foilWalkSpec : ChangeSpec := { name := "foilWalk", fn := fun _ => fun
  | [d1, d2, d3, d4, d5] => { results := [.lit (.bool true)], args := [d1, d2, d3, d4, d5] }
  | _ => none }
def foilWalkRow : OpenClaim := { program := "ytlilfiekkaolkaa", sum := "274ed54db64826012461aa7c204f5b2f7ce3558b50e92b438f55202d159e426d", func := "parry/parrylaw21.FoilWalk", spec := "foilWalk", unfollowed := true, recurses := true, plainKeys := false, apart := false }
def FoilWalkSaid : Prop := foilWalkRow.holds Try.pinned (OpenSpec.ofChange foilWalkSpec)

/-- ITS FALSE NEIGHBOUR: 'it returns false'. Refute it at one input. -/
def foilWalkWrong : ChangeSpec := { name := "foilWalk", fn := fun _ => fun
  | [d1, d2, d3, d4, d5] => { results := [.lit (.bool false)], args := [d1, d2, d3, d4, d5] }
  | _ => none }
def FoilWalkWrongFalsely : Prop := foilWalkRow.holds Try.pinned (OpenSpec.ofChange foilWalkWrong)

/-- 'parrylaw20.CounterSame': WHATEVER THE INPUT: true; the input reads as it did. -/
def counterSameSpec : ChangeSpec := { name := "counterSame", fn := fun _ => fun
  | [d1, d2, d3] => { results := [.lit (.bool true)], args := [d1, d2, d3] }
  | _ => none }
def counterSameRow : OpenClaim := { program := "ytlilfiekkaolkaa", sum := "274ed54db64826012461aa7c204f5b2f7ce3558b50e92b438f55202d159e426d", func := "parry/parrylaw20.CounterSame", spec := "counterSame", unfollowed := true, recurses := true, plainKeys := false, apart := false }
def CounterSameSaid : Prop := counterSameRow.holds Try.pinned (OpenSpec.ofChange counterSameSpec)

/-- ITS FALSE NEIGHBOUR: 'it returns false'. Refute it at one input. -/
def counterSameWrong : ChangeSpec := { name := "counterSame", fn := fun _ => fun
  | [d1, d2, d3] => { results := [.lit (.bool false)], args := [d1, d2, d3] }
  | _ => none }
def CounterSameWrongFalsely : Prop := counterSameRow.holds Try.pinned (OpenSpec.ofChange counterSameWrong)

/-- 'parrylaw16.SmallAgrees': WHATEVER THE INPUT: true; the input reads as it did. -/
def smallAgreesSpec : ChangeSpec := { name := "smallAgrees", fn := fun _ => fun
  | [d1, d2] => { results := [.lit (.bool true)], args := [d1, d2] }
  | _ => none }
def smallAgreesRow : OpenClaim := { program := "ytlilfiekkaolkaa", sum := "274ed54db64826012461aa7c204f5b2f7ce3558b50e92b438f55202d159e426d", func := "parry/parrylaw16.SmallAgrees", spec := "smallAgrees", unfollowed := true, recurses := true, plainKeys := false, apart := false }
def SmallAgreesSaid : Prop := smallAgreesRow.holds Try.pinned (OpenSpec.ofChange smallAgreesSpec)

/-- ITS FALSE NEIGHBOUR: 'it returns false'. Refute it at one input. -/
def smallAgreesWrong : ChangeSpec := { name := "smallAgrees", fn := fun _ => fun
  | [d1, d2] => { results := [.lit (.bool false)], args := [d1, d2] }
  | _ => none }
def SmallAgreesWrongFalsely : Prop := smallAgreesRow.holds Try.pinned (OpenSpec.ofChange smallAgreesWrong)

/-- 'parrylaw17.ProofBoth': WHATEVER THE INPUT: true; the input reads as it did. -/
def proofBothSpec : ChangeSpec := { name := "proofBoth", fn := fun _ => fun
  | [d1, d2, d3, d4, d5] => { results := [.lit (.bool true)], args := [d1, d2, d3, d4, d5] }
  | _ => none }
def proofBothRow : OpenClaim := { program := "ytlilfiekkaolkaa", sum := "274ed54db64826012461aa7c204f5b2f7ce3558b50e92b438f55202d159e426d", func := "parry/parrylaw17.ProofBoth", spec := "proofBoth", unfollowed := true, recurses := true, plainKeys := false, apart := false }
def ProofBothSaid : Prop := proofBothRow.holds Try.pinned (OpenSpec.ofChange proofBothSpec)

/-- ITS FALSE NEIGHBOUR: 'it returns false'. Refute it at one input. -/
def proofBothWrong : ChangeSpec := { name := "proofBoth", fn := fun _ => fun
  | [d1, d2, d3, d4, d5] => { results := [.lit (.bool false)], args := [d1, d2, d3, d4, d5] }
  | _ => none }
def ProofBothWrongFalsely : Prop := proofBothRow.holds Try.pinned (OpenSpec.ofChange proofBothWrong)

/- THE SECOND FORM. 'bulk': how many values and letters a reading holds, each counted each time it is reached (what is shared counts as often as it is met; a slice's spare places count too). A statement '..UptoSaid' is the law's where the arguments, and the package variables that the reading takes, are together of bulk at most 1048576: NARROWER than '..Said'. Prove '..Said' where nothing that the law and all that it calls make is longer than what came in: it says more and counts as full. Else prove '..UptoSaid'. A law counts once. -/
mutual
def uptoBulk {H : Type} : DataW H → Nat
  | .lit (.string bytes) => bytes.length + 1
  | .lit _ => 1
  | .nil => 1
  | .ptr d => uptoBulk d + 1
  | .slice elems spare => uptoBulkAll elems + uptoBulkAll spare + 1
  | .agg parts => uptoBulkAll parts + 1
  | .iface _ d => uptoBulk d + 1
  | .map entries => uptoBulkEntries entries + 1
  | .held _ => 1
def uptoBulkAll {H : Type} : List (DataW H) → Nat
  | [] => 0
  | d :: r => uptoBulk d + uptoBulkAll r
def uptoBulkEntries {H : Type} : List (Lit × DataW H) → Nat
  | [] => 0
  | x :: r => uptoBulkEntry x + uptoBulkEntries r
def uptoBulkEntry {H : Type} : Lit × DataW H → Nat
  | (.string bytes, d) => bytes.length + uptoBulk d + 1
  | (_, d) => uptoBulk d + 1
 end
def uptoSmall : (H : Type) → List (DataW H) → Bool := fun _ ds => decide (uptoBulkAll ds ≤ 1048576)
def OpenSpec.upto (s : _root_.Go.ChangeSpec) : _root_.Go.OpenSpec := { _root_.Go.OpenSpec.ofChange s with cond := some uptoSmall }

/-- 'parrylaw16.SmallShift', WHERE WHAT IT READS IS OF BULK AT MOST 1048576: true; the input reads as it did. -/
def smallShiftUptoRow : OpenClaim := { program := "ytlilfiekkaolkaa", sum := "274ed54db64826012461aa7c204f5b2f7ce3558b50e92b438f55202d159e426d", func := "parry/parrylaw16.SmallShift", spec := "smallShift", unfollowed := true, recurses := true, plainKeys := false, apart := false, narrowed := true }
def SmallShiftUptoSaid : Prop := smallShiftUptoRow.holds Try.pinned (OpenSpec.upto smallShiftSpec)

/-- 'parrylaw14.RecurForced', WHERE WHAT IT READS IS OF BULK AT MOST 1048576: true; the input reads as it did. -/
def recurForcedUptoRow : OpenClaim := { program := "ytlilfiekkaolkaa", sum := "274ed54db64826012461aa7c204f5b2f7ce3558b50e92b438f55202d159e426d", func := "parry/parrylaw14.RecurForced", spec := "recurForced", unfollowed := true, recurses := true, plainKeys := false, apart := false, narrowed := true }
def RecurForcedUptoSaid : Prop := recurForcedUptoRow.holds Try.pinned (OpenSpec.upto recurForcedSpec)

/-- 'parrylaw14.RecurEither', WHERE WHAT IT READS IS OF BULK AT MOST 1048576: true; the input reads as it did. -/
def recurEitherUptoRow : OpenClaim := { program := "ytlilfiekkaolkaa", sum := "274ed54db64826012461aa7c204f5b2f7ce3558b50e92b438f55202d159e426d", func := "parry/parrylaw14.RecurEither", spec := "recurEither", unfollowed := true, recurses := true, plainKeys := false, apart := false, narrowed := true }
def RecurEitherUptoSaid : Prop := recurEitherUptoRow.holds Try.pinned (OpenSpec.upto recurEitherSpec)

/-- 'parrylaw13.SafeStays', WHERE WHAT IT READS IS OF BULK AT MOST 1048576: true; the input reads as it did. -/
def safeStaysUptoRow : OpenClaim := { program := "ytlilfiekkaolkaa", sum := "274ed54db64826012461aa7c204f5b2f7ce3558b50e92b438f55202d159e426d", func := "parry/parrylaw13.SafeStays", spec := "safeStays", unfollowed := true, recurses := true, plainKeys := false, apart := false, narrowed := true }
def SafeStaysUptoSaid : Prop := safeStaysUptoRow.holds Try.pinned (OpenSpec.upto safeStaysSpec)

/-- 'parrylaw19.PlanRight', WHERE WHAT IT READS IS OF BULK AT MOST 1048576: true; the input reads as it did. -/
def planRightUptoRow : OpenClaim := { program := "ytlilfiekkaolkaa", sum := "274ed54db64826012461aa7c204f5b2f7ce3558b50e92b438f55202d159e426d", func := "parry/parrylaw19.PlanRight", spec := "planRight", unfollowed := true, recurses := true, plainKeys := false, apart := false, narrowed := true }
def PlanRightUptoSaid : Prop := planRightUptoRow.holds Try.pinned (OpenSpec.upto planRightSpec)

/-- 'parrylaw19.PlanThens', WHERE WHAT IT READS IS OF BULK AT MOST 1048576: true; the input reads as it did. -/
def planThensUptoRow : OpenClaim := { program := "ytlilfiekkaolkaa", sum := "274ed54db64826012461aa7c204f5b2f7ce3558b50e92b438f55202d159e426d", func := "parry/parrylaw19.PlanThens", spec := "planThens", unfollowed := true, recurses := true, plainKeys := false, apart := false, narrowed := true }
def PlanThensUptoSaid : Prop := planThensUptoRow.holds Try.pinned (OpenSpec.upto planThensSpec)

/-- 'parrylaw19.PlanAll', WHERE WHAT IT READS IS OF BULK AT MOST 1048576: true; the input reads as it did. -/
def planAllUptoRow : OpenClaim := { program := "ytlilfiekkaolkaa", sum := "274ed54db64826012461aa7c204f5b2f7ce3558b50e92b438f55202d159e426d", func := "parry/parrylaw19.PlanAll", spec := "planAll", unfollowed := true, recurses := true, plainKeys := false, apart := false, narrowed := true }
def PlanAllUptoSaid : Prop := planAllUptoRow.holds Try.pinned (OpenSpec.upto planAllSpec)

/-- 'parrylaw19.PlanWalk', WHERE WHAT IT READS IS OF BULK AT MOST 1048576: true; the input reads as it did. -/
def planWalkUptoRow : OpenClaim := { program := "ytlilfiekkaolkaa", sum := "274ed54db64826012461aa7c204f5b2f7ce3558b50e92b438f55202d159e426d", func := "parry/parrylaw19.PlanWalk", spec := "planWalk", unfollowed := true, recurses := true, plainKeys := false, apart := false, narrowed := true }
def PlanWalkUptoSaid : Prop := planWalkUptoRow.holds Try.pinned (OpenSpec.upto planWalkSpec)

/-- 'parrylaw17.ProofForms', WHERE WHAT IT READS IS OF BULK AT MOST 1048576: true; the input reads as it did. -/
def proofFormsUptoRow : OpenClaim := { program := "ytlilfiekkaolkaa", sum := "274ed54db64826012461aa7c204f5b2f7ce3558b50e92b438f55202d159e426d", func := "parry/parrylaw17.ProofForms", spec := "proofForms", unfollowed := true, recurses := true, plainKeys := false, apart := false, narrowed := true }
def ProofFormsUptoSaid : Prop := proofFormsUptoRow.holds Try.pinned (OpenSpec.upto proofFormsSpec)

/-- 'parrylaw18.GrAgain', WHERE WHAT IT READS IS OF BULK AT MOST 1048576: true; the input reads as it did. -/
def grAgainUptoRow : OpenClaim := { program := "ytlilfiekkaolkaa", sum := "274ed54db64826012461aa7c204f5b2f7ce3558b50e92b438f55202d159e426d", func := "parry/parrylaw18.GrAgain", spec := "grAgain", unfollowed := true, recurses := true, plainKeys := false, apart := false, narrowed := true }
def GrAgainUptoSaid : Prop := grAgainUptoRow.holds Try.pinned (OpenSpec.upto grAgainSpec)

/-- 'parrylaw14.RecurMore', WHERE WHAT IT READS IS OF BULK AT MOST 1048576: true; the input reads as it did. -/
def recurMoreUptoRow : OpenClaim := { program := "ytlilfiekkaolkaa", sum := "274ed54db64826012461aa7c204f5b2f7ce3558b50e92b438f55202d159e426d", func := "parry/parrylaw14.RecurMore", spec := "recurMore", unfollowed := true, recurses := true, plainKeys := false, apart := false, narrowed := true }
def RecurMoreUptoSaid : Prop := recurMoreUptoRow.holds Try.pinned (OpenSpec.upto recurMoreSpec)

/-- 'parrylaw14.RecurComes', WHERE WHAT IT READS IS OF BULK AT MOST 1048576: true; the input reads as it did. -/
def recurComesUptoRow : OpenClaim := { program := "ytlilfiekkaolkaa", sum := "274ed54db64826012461aa7c204f5b2f7ce3558b50e92b438f55202d159e426d", func := "parry/parrylaw14.RecurComes", spec := "recurComes", unfollowed := true, recurses := true, plainKeys := false, apart := false, narrowed := true }
def RecurComesUptoSaid : Prop := recurComesUptoRow.holds Try.pinned (OpenSpec.upto recurComesSpec)

/-- 'parrylaw15.ParityForms', WHERE WHAT IT READS IS OF BULK AT MOST 1048576: true; the input reads as it did. -/
def parityFormsUptoRow : OpenClaim := { program := "ytlilfiekkaolkaa", sum := "274ed54db64826012461aa7c204f5b2f7ce3558b50e92b438f55202d159e426d", func := "parry/parrylaw15.ParityForms", spec := "parityForms", unfollowed := true, recurses := true, plainKeys := false, apart := false, narrowed := true }
def ParityFormsUptoSaid : Prop := parityFormsUptoRow.holds Try.pinned (OpenSpec.upto parityFormsSpec)

/-- 'parrylaw15.ParityRight', WHERE WHAT IT READS IS OF BULK AT MOST 1048576: true; the input reads as it did. -/
def parityRightUptoRow : OpenClaim := { program := "ytlilfiekkaolkaa", sum := "274ed54db64826012461aa7c204f5b2f7ce3558b50e92b438f55202d159e426d", func := "parry/parrylaw15.ParityRight", spec := "parityRight", unfollowed := true, recurses := true, plainKeys := false, apart := false, narrowed := true }
def ParityRightUptoSaid : Prop := parityRightUptoRow.holds Try.pinned (OpenSpec.upto parityRightSpec)

/-- 'parrylaw15.ParityTurned', WHERE WHAT IT READS IS OF BULK AT MOST 1048576: true; the input reads as it did. -/
def parityTurnedUptoRow : OpenClaim := { program := "ytlilfiekkaolkaa", sum := "274ed54db64826012461aa7c204f5b2f7ce3558b50e92b438f55202d159e426d", func := "parry/parrylaw15.ParityTurned", spec := "parityTurned", unfollowed := true, recurses := true, plainKeys := false, apart := false, narrowed := true }
def ParityTurnedUptoSaid : Prop := parityTurnedUptoRow.holds Try.pinned (OpenSpec.upto parityTurnedSpec)

/-- 'parrylaw15.ParityOne', WHERE WHAT IT READS IS OF BULK AT MOST 1048576: true; the input reads as it did. -/
def parityOneUptoRow : OpenClaim := { program := "ytlilfiekkaolkaa", sum := "274ed54db64826012461aa7c204f5b2f7ce3558b50e92b438f55202d159e426d", func := "parry/parrylaw15.ParityOne", spec := "parityOne", unfollowed := true, recurses := true, plainKeys := false, apart := false, narrowed := true }
def ParityOneUptoSaid : Prop := parityOneUptoRow.holds Try.pinned (OpenSpec.upto parityOneSpec)

/-- 'parrylaw15.ParityRecur', WHERE WHAT IT READS IS OF BULK AT MOST 1048576: true; the input reads as it did. -/
def parityRecurUptoRow : OpenClaim := { program := "ytlilfiekkaolkaa", sum := "274ed54db64826012461aa7c204f5b2f7ce3558b50e92b438f55202d159e426d", func := "parry/parrylaw15.ParityRecur", spec := "parityRecur", unfollowed := true, recurses := true, plainKeys := false, apart := false, narrowed := true }
def ParityRecurUptoSaid : Prop := parityRecurUptoRow.holds Try.pinned (OpenSpec.upto parityRecurSpec)

/-- 'parrylaw15.ParityLocal', WHERE WHAT IT READS IS OF BULK AT MOST 1048576: true; the input reads as it did. -/
def parityLocalUptoRow : OpenClaim := { program := "ytlilfiekkaolkaa", sum := "274ed54db64826012461aa7c204f5b2f7ce3558b50e92b438f55202d159e426d", func := "parry/parrylaw15.ParityLocal", spec := "parityLocal", unfollowed := true, recurses := true, plainKeys := false, apart := false, narrowed := true }
def ParityLocalUptoSaid : Prop := parityLocalUptoRow.holds Try.pinned (OpenSpec.upto parityLocalSpec)

/-- 'parrylaw21.FoilRight', WHERE WHAT IT READS IS OF BULK AT MOST 1048576: true; the input reads as it did. -/
def foilRightUptoRow : OpenClaim := { program := "ytlilfiekkaolkaa", sum := "274ed54db64826012461aa7c204f5b2f7ce3558b50e92b438f55202d159e426d", func := "parry/parrylaw21.FoilRight", spec := "foilRight", unfollowed := true, recurses := true, plainKeys := false, apart := false, narrowed := true }
def FoilRightUptoSaid : Prop := foilRightUptoRow.holds Try.pinned (OpenSpec.upto foilRightSpec)

/-- 'parrylaw21.FoilThens', WHERE WHAT IT READS IS OF BULK AT MOST 1048576: true; the input reads as it did. -/
def foilThensUptoRow : OpenClaim := { program := "ytlilfiekkaolkaa", sum := "274ed54db64826012461aa7c204f5b2f7ce3558b50e92b438f55202d159e426d", func := "parry/parrylaw21.FoilThens", spec := "foilThens", unfollowed := true, recurses := true, plainKeys := false, apart := false, narrowed := true }
def FoilThensUptoSaid : Prop := foilThensUptoRow.holds Try.pinned (OpenSpec.upto foilThensSpec)

/-- 'parrylaw21.FoilAll', WHERE WHAT IT READS IS OF BULK AT MOST 1048576: true; the input reads as it did. -/
def foilAllUptoRow : OpenClaim := { program := "ytlilfiekkaolkaa", sum := "274ed54db64826012461aa7c204f5b2f7ce3558b50e92b438f55202d159e426d", func := "parry/parrylaw21.FoilAll", spec := "foilAll", unfollowed := true, recurses := true, plainKeys := false, apart := false, narrowed := true }
def FoilAllUptoSaid : Prop := foilAllUptoRow.holds Try.pinned (OpenSpec.upto foilAllSpec)

/-- 'parrylaw21.FoilWalk', WHERE WHAT IT READS IS OF BULK AT MOST 1048576: true; the input reads as it did. -/
def foilWalkUptoRow : OpenClaim := { program := "ytlilfiekkaolkaa", sum := "274ed54db64826012461aa7c204f5b2f7ce3558b50e92b438f55202d159e426d", func := "parry/parrylaw21.FoilWalk", spec := "foilWalk", unfollowed := true, recurses := true, plainKeys := false, apart := false, narrowed := true }
def FoilWalkUptoSaid : Prop := foilWalkUptoRow.holds Try.pinned (OpenSpec.upto foilWalkSpec)

/-- 'parrylaw20.CounterSame', WHERE WHAT IT READS IS OF BULK AT MOST 1048576: true; the input reads as it did. -/
def counterSameUptoRow : OpenClaim := { program := "ytlilfiekkaolkaa", sum := "274ed54db64826012461aa7c204f5b2f7ce3558b50e92b438f55202d159e426d", func := "parry/parrylaw20.CounterSame", spec := "counterSame", unfollowed := true, recurses := true, plainKeys := false, apart := false, narrowed := true }
def CounterSameUptoSaid : Prop := counterSameUptoRow.holds Try.pinned (OpenSpec.upto counterSameSpec)

/-- 'parrylaw16.SmallAgrees', WHERE WHAT IT READS IS OF BULK AT MOST 1048576: true; the input reads as it did. -/
def smallAgreesUptoRow : OpenClaim := { program := "ytlilfiekkaolkaa", sum := "274ed54db64826012461aa7c204f5b2f7ce3558b50e92b438f55202d159e426d", func := "parry/parrylaw16.SmallAgrees", spec := "smallAgrees", unfollowed := true, recurses := true, plainKeys := false, apart := false, narrowed := true }
def SmallAgreesUptoSaid : Prop := smallAgreesUptoRow.holds Try.pinned (OpenSpec.upto smallAgreesSpec)

/-- 'parrylaw17.ProofBoth', WHERE WHAT IT READS IS OF BULK AT MOST 1048576: true; the input reads as it did. -/
def proofBothUptoRow : OpenClaim := { program := "ytlilfiekkaolkaa", sum := "274ed54db64826012461aa7c204f5b2f7ce3558b50e92b438f55202d159e426d", func := "parry/parrylaw17.ProofBoth", spec := "proofBoth", unfollowed := true, recurses := true, plainKeys := false, apart := false, narrowed := true }
def ProofBothUptoSaid : Prop := proofBothUptoRow.holds Try.pinned (OpenSpec.upto proofBothSpec)

end Rows
end Go.Proofs.Ytlilfiekkaolkaa
